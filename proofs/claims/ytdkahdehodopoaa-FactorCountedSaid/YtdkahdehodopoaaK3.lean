/-
  FACTORCOUNTED, PART 3 OF 8. One sentence: the texts behind the law FactorCounted, put together.
  Conditions: each theorem's own, written out in it.
-/
import Derived.ProofKit
import Derived.Deep.Slices
import Derived.SizedLaws
import Derived.OpenShut
import Derived.ShutString
import Derived.ChangeOld
import Derived.RangeFuncNested
import Derived.RangeFuncBound
import Derived.RangeFuncCalls
import Derived.RangeFuncLeaves
import Derived.Shelf.Abstract
import Derived.Shelf.RegionOpen
import Derived.WalkKit
import Derived.OwnWalkIn
import Derived.TacticsInMore
import Derived.LoopNIn
import Derived.LoopIn
import Derived.Test.YtdkahdehodopoaaShelf
import Derived.Sort.OwnSortedInts
import Derived.Scope
import Derived.Test.YtdkahdehodopoaaK2
set_option linter.unusedSimpArgs false
set_option linter.unusedVariables false
set_option linter.unusedSectionVars false
set_option maxRecDepth 100000
namespace Go.Proofs.Ytdkahdehodopoaa
open Go.RowKit
theorem gf_Is_ent : Enters Try.prog 89 := enters_of Try.func89 (by kernel_rfl) (by kernel_rfl)
theorem gf_Is (g : GfM) (x : Int) :
  Pure Try.prog 89 #[.pointer (some g.p), .int .i64 x] [gfR g] (isV (.bool (decide (x ≥ 0) && decide (x < g.q)))) := by
 refine pure_of (args := [.pointer (some g.p), .int .i64 x]) 15 Try.func89 rfl rfl rfl gf_Is_ent ⟨id, trivial⟩ (fun w0 => ?_)
 refine tS ?_
 refine tR fun _ _ _ => ?_
 refine pV ?_
 refine tS ?_
 refine tR fun _ _ _ => ?_
 iterate 3 refine pV ?_
 refine stg rfl rfl rfl rfl rfl (fun hb => by (have hq := hb; try simp only [zbA] at hq); exact rMove rfl rfl) ?_
 refine stg rfl rfl rfl rfl rfl (fun hb => by (have hq := hb; try simp only [zbA] at hq); exact rMove rfl rfl) ?_
 refine stg rfl rfl rfl rfl rfl (fun hb => by (have hq := hb; try simp only [zbA] at hq); exact rNil rfl (evg rfl hb)) ?_
 refine stg rfl rfl rfl rfl rfl (fun hb => by (have hq := hb; try simp only [zbA] at hq); exact rFld rfl (evg rfl hb)) ?_
 refine stg rfl rfl rfl rfl rfl (fun hb => by (have hq := hb; try simp only [zbA] at hq); exact rLdF rfl (evg rfl hb) rfl) ?_
 refine stg rfl rfl rfl rfl rfl (fun hb => by (have hq := hb; try simp only [zbA] at hq); exact rLss rfl (evg rfl hb) (evg rfl hb)) ?_
 refine sV (rAndB rfl rfl rfl rfl) ?_
 refine pV ?_
 exact tr_ret ⟨trivial, _, _, rfl, ⟨rfl, rfl⟩, CSub.nil _, trivial⟩
theorem poly_trim_ent : Enters Try.prog 66 := enters_of Try.func66 (by kernel_rfl) (by kernel_rfl)
theorem poly_trim (A : Option Addr) (n c : Nat) (l : List Int) (hn : n = l.length) (hc : n ≤ c) (hl9 : l.length ≤ 17592186044415) :
  Pure Try.prog 66 #[.slice A n c] [ro A (ints l)] (isV (.slice A (trimL l).length c)) := by
 refine pure_of (args := [.slice A n c]) 21 Try.func66 rfl rfl rfl poly_trim_ent ⟨id, trivial⟩ (fun w0 => ?_)
 refine tS ?_
 refine tR fun _ _ _ => ?_
 refine pV ?_
 refine tS ?_
 refine tB ?_
 refine tr_loop1 (fun (k : Nat) => [(0, .slice A k c)]) (fun (k : Nat) => [ro A (ints l)]) (fun (k : Nat) => k ≤ l.length ∧ trimL (l.take k) = trimL l) (fun (k : Nat) => k) (n) ⟨rfl, trivial⟩ (by first | exact cs _ _ | exact CSub.refl _) (⟨by omega, by rw [List.take_of_length_le (by omega)]⟩) (fun k hI => ?_)
 obtain ⟨hk0, hk1⟩ := hI
 refine tS ?_
 refine tS ?_
 refine tR fun _ _ _ => ?_
 refine pV ?_
 refine sV (rLen rfl rfl) ?_
 iterate 2 refine pV ?_
 refine stg rfl rfl rfl rfl rfl (fun hb => by (have hq := hb; try simp only [zbA] at hq); exact rMove rfl rfl) ?_
 refine stg rfl rfl rfl rfl rfl (fun hb => by (have hq := hb; try simp only [zbA] at hq); exact rMove rfl rfl) ?_
 refine stg rfl rfl rfl rfl rfl (fun hb => by (have hq := hb; try simp only [zbA] at hq); exact rLen rfl (evg rfl hb)) ?_
 refine stg rfl rfl rfl rfl rfl (fun hb => by (have hq := hb; try simp only [zbA] at hq); exact rSub rfl (evg rfl hb) rfl (by omega) (by omega)) ?_
 refine stg rfl rfl rfl rfl rfl (fun hb => by (have hq := hb; try simp only [zbA] at hq); exact rIdxI rfl (evg rfl hb) (evg rfl hb) (by omega) (by omega) (by omega)) ?_
 refine stg rfl rfl rfl rfl rfl (fun hb => by (have hq := hb; try simp only [zbA] at hq); exact rLdI rfl (evg rfl hb) (by omega)) ?_
 refine stg rfl rfl rfl rfl rfl (fun hb => by (have hq := hb; try simp only [zbA] at hq); exact rEql rfl (evg rfl hb) rfl) ?_
 refine sV (rAndB rfl rfl rfl rfl) ?_
 refine tC rfl (fun h1 => ?_) (fun h1 => ?_)
 ·try simp only [zbA] at h1
  refine tK ?_
  refine tB ?_
  refine tR fun _ _ _ => ?_
  iterate 2 refine pV ?_
  refine sV (rLen rfl rfl) ?_
  refine sV (rSub rfl rfl rfl (by omega) (by omega)) ?_
  refine sV (rCutHi rfl rfl rfl (by omega) (by omega)) ?_
  refine pV ?_
  refine ⟨((k : Int) - 1).toNat, ⟨rfl, trivial⟩, by first | exact cs _ _ | exact CSub.refl _, ?_⟩
  have hkk : ((k : Int) - 1).toNat = k - 1 := by omega
  rw [hkk] at h1 ⊢
  exact ⟨⟨by omega, trim_step (by omega) hk0 hk1 h1.2⟩, by omega⟩
 ·try simp only [zbA] at h1
  refine tE ?_
  refine tS ?_
  refine tR fun _ _ _ => ?_
  iterate 2 refine pV ?_
  have hd := trim_done hk0 hk1 (by
   rcases h1 with h1 | h1
   ·exact .inl (by omega)
   ·rw [show ((k : Int) - 1).toNat = k - 1 by omega] at h1
    exact .inr h1)
  exact tr_ret ⟨trivial, _, _, rfl, ⟨by rw [hd], rfl⟩, CSub.nil _, trivial⟩
theorem poly_CanonS_ent : Enters Try.prog 60 := enters_of Try.func60 (by kernel_rfl) (by kernel_rfl)
theorem poly_CanonS (g : GfM) (A : Option Addr) (n c : Nat) (l : List Int) (hn : n = l.length) (hl9 : l.length ≤ 17592186044415) :
  Pure Try.prog 60 #[.pointer (some g.p), .slice A n c] [gfR g, ro A (ints l)] (one (fun v ch => ∃ B cap, v = .slice B (canL g.q l).length cap ∧ (canL g.q l).length ≤ cap ∧ ch = ow B 3 cap (ints (canL g.q l)))) := by
 have hnn : ((n : Int)).toNat = n := by omega
 refine pure_of (args := [.pointer (some g.p), .slice A n c]) 28 Try.func60 rfl rfl rfl poly_CanonS_ent ⟨id, id, trivial⟩ (fun w0 => ?_)
 refine tS ?_
 refine tR fun _ _ _ => ?_
 refine pV ?_
 refine tS ?_
 refine tR fun _ _ _ => ?_
 refine pV ?_
 refine sV (rLen rfl rfl) ?_
 refine eV (eMakeI rfl rfl rfl rfl rfl (by omega) (by omega) (by omega) (fun A1 => ?_))
 refine pV ?_
 refine tS ?_
 refine tS ?_
 refine tR fun _ _ _ => ?_
 rw [hnn]
 refine pV ?_
 refine sV (rLen rfl rfl) ?_
 refine pV ?_
 refine tB ?_
 refine tr_loop2 (fun (k : Int) (o : List Int) => [(0, .pointer (some g.p)), (5, .slice A1 n n), (11, .slice A n c), (12, .int .i64 n), (13, .int .i64 k)]) (fun (k : Int) (o : List Int) => [ow A1 3 n (ints o), gfR g, ro A (ints l)]) (fun (k : Int) (o : List Int) => 0 ≤ k ∧ k ≤ n ∧ o.length = n ∧ (∀ j : Nat, (j : Int) < k → o.getD j 0 = inI g.q (l.getD j 0)) ∧ ∀ j : Nat, k ≤ j → o.getD j 0 = 0) (fun (k : Int) (o : List Int) => (n - k).toNat) (0) (List.replicate n 0) ⟨rfl, rfl, rfl, rfl, rfl, trivial⟩ (by first | exact cs _ _ | exact CSub.refl _) (⟨by omega, by omega, by simp, fun j hj => by omega, fun j _ => by rw [List.getD_eq_getElem?_getD, List.getElem?_replicate]; split <;> rfl⟩) (fun k o hI => ?_)
 obtain ⟨hk0, hk1, hol, hdone, htodo⟩ := hI
 refine tS ?_
 refine tR fun _ _ _ => ?_
 refine pV ?_
 refine tS ?_
 refine tC rfl (fun h3 => ?_) (fun h3 => ?_)
 ·try simp only [zbA] at h3
  refine tK ?_
  refine tS ?_
  refine tB ?_
  refine tS ?_
  refine tR fun _ _ _ => ?_
  refine pV ?_
  refine sV (rIdxI rfl rfl rfl (by omega) (by omega) (by omega)) ?_
  refine sV (rLdI rfl rfl (by omega)) ?_
  iterate 2 refine pV ?_
  refine tS ?_
  refine tR fun _ _ _ => ?_
  iterate 2 refine pV ?_
  refine eV (eCallV rfl rfl rfl (gf_Is _ _) ⟨rfl, rfl, trivial⟩ ?_)
  refine tC rfl (fun h5 => ?_) (fun h5 => ?_)
  ·try simp only [zbA] at h5
   refine tR fun _ _ _ => ?_
   iterate 3 refine pV ?_
   refine sV (rIdxI rfl rfl rfl (by omega) (by omega) (by omega)) ?_
   refine eV (eStI rfl rfl rfl rfl (by omega) ?_)
   refine tR fun _ _ _ => ?_
   refine sV (rAdd rfl rfl rfl (by omega) (by omega)) ?_
   refine pV ?_
   refine ⟨k + 1, o.set k.toNat (l.getD k.toNat 0), ⟨rfl, rfl, rfl, rfl, rfl, trivial⟩, by first | exact cs _ _ | exact CSub.refl _, ?_⟩
   refine ⟨⟨by omega, by omega, by simpa using hol, fun j hj => ?_, fun j hj => by rw [getD_set, if_neg (by omega)]; exact htodo j (by omega)⟩, by omega⟩
   rw [getD_set]
   by_cases hjk : k.toNat = j
   ·subst hjk; rw [if_pos ⟨rfl, by omega⟩, inI_in (by omega) (by omega)]
   ·rw [if_neg (by omega)]; exact hdone j (by omega)
  ·try simp only [zbA] at h5
   refine tK ?_
   refine tR fun _ _ _ => ?_
   refine sV (rAdd rfl rfl rfl (by omega) (by omega)) ?_
   refine pV ?_
   refine ⟨k + 1, o, ⟨rfl, rfl, rfl, rfl, rfl, trivial⟩, by first | exact cs _ _ | exact CSub.refl _, ?_⟩
   refine ⟨⟨by omega, by omega, hol, fun j hj => ?_, fun j hj => htodo j (by omega)⟩, by omega⟩
   by_cases hjk : (j : Int) = k
   ·have hj2 : j = k.toNat := by omega
    rw [htodo j (by omega), hj2, inI, if_neg (by omega)]
   ·exact hdone j (by omega)
 ·try simp only [zbA] at h3
  refine tE ?_
  refine tS ?_
  have hkn : k = n := by omega
  have ho : o = l.map (inI g.q) := by
   apply List.ext_getElem (by simp; omega)
   intro i h1 h2
   have h3 := hdone i (by omega)
   rw [List.getD_eq_getElem?_getD, List.getElem?_eq_getElem h1, List.getD_eq_getElem?_getD, List.getElem?_eq_getElem (show i < l.length by omega)] at h3
   simpa using h3
  refine tR fun _ _ _ => ?_
  refine pV ?_
  refine eV (eCallV rfl rfl rfl (poly_trim _ _ _ o (by omega) (by omega) (by omega)) ⟨rfl, trivial⟩ ?_)
  refine pV ?_
  have hsp := trimL_split o
  have hco : canL g.q l = trimL o := by rw [ho]; rfl
  refine tr_ret ⟨trivial, _, _, rfl, ⟨_, rfl, A1, n, by rw [hco], by have := congrArg List.length hsp; rw [List.length_append] at this; rw [hco]; omega, rfl⟩, ?_, trivial, trivial⟩
  rw [hco]
  have hsh := ow_shrink (e := 3) (A := A1) (cap := n) (vs := ints (trimL o)) (ws := ints (o.drop (trimL o).length)) [gfR g, ro A (ints l)]
  rw [← ints_append, ← hsp] at hsh
  exact hsh.trans (cs _ _)
theorem fld_New_no (p m : Int) (A : Option Addr) (c : Nat) (mod : List Int) (hl9 : mod.length ≤ 17592186044415) (h : ¬ FldR p m mod) : Pure Try.prog 28 #[.agg #[.int .i64 p, .int .i64 m, .slice A mod.length c]] [ro A (ints mod)] (isV (.tuple #[.pointer none, .int .i64 1])) :=
 (fld_New p m A c mod hl9).mono fun v Fo hr => by
  rcases hr with ⟨h1, h2, _⟩ | ⟨g, _, _, hg⟩
  ·exact ⟨h1, h2⟩
  ·obtain ⟨x, hx⟩ := hg.gen
   exact absurd (fldN_iff.1 ⟨hg.shp, x, _, hx⟩) h
theorem fld_New_ok (p m : Int) (A : Option Addr) (c : Nat) (mod : List Int) (hl9 : mod.length ≤ 17592186044415) (h : FldR p m mod) : Pure Try.prog 28 #[.agg #[.int .i64 p, .int .i64 m, .slice A mod.length c]] [ro A (ints mod)] (one (fun v ch => ∃ g : GfM, v = .tuple #[.pointer (some g.p), .int .i64 0] ∧ ch = gfN g ∧ GOk g p m mod)) :=
 (fld_New p m A c mod hl9).mono fun v Fo hr => by
  rcases hr with ⟨_, _, h3⟩ | ⟨g, h1, h2, hg⟩
  ·exact absurd (fldN_iff.2 h) h3
  ·exact ⟨_, h2, g, h1, rfl, hg⟩
theorem law_open_no_ent : Enters Try.prog 9 := enters_of Try.func9 (by kernel_rfl) (by kernel_rfl)
theorem law_open_no (p m : Int) (A : Option Addr) (c : Nat) (mod : List Int) (hl9 : mod.length ≤ 17592186044415) (hF : ¬ FldR p m mod) :
  Pure Try.prog 9 #[.agg #[.int .i64 p, .int .i64 m, .slice A mod.length c]] [ro A (ints mod)] (isV (.tuple #[.pointer none, .bool true, .bool true])) := by
 refine pure_of (args := [.agg #[.int .i64 p, .int .i64 m, .slice A mod.length c]]) 23 Try.func9 rfl rfl rfl law_open_no_ent ⟨id, trivial⟩ (fun w0 => ?_)
 refine tS ?_
 refine tR fun _ _ _ => ?_
 refine eV (eBox rfl rfl rfl rfl rfl (fun p0 => ?_))
 iterate 3 refine pV ?_
 refine tS ?_
 refine tR fun _ _ _ => ?_
 refine sV (rLdS rfl rfl rfl) ?_
 refine eV (eCallV rfl rfl rfl (fld_New_no _ _ _ _ _ (by omega) hF) ⟨rfl, trivial⟩ ?_)
 iterate 5 refine pV ?_
 refine tS ?_
 refine tS ?_
 refine tR fun _ _ _ => ?_
 refine sV (rLdS rfl rfl rfl) ?_
 refine eV (eCallV rfl rfl rfl (ref_fldCheck _ _ _ _ _ (by omega)) ⟨rfl, trivial⟩ ?_)
 refine pV ?_
 refine tC rfl (fun h2 => ?_) (fun h2 => ?_)
 ·try simp only [zbA] at h2
  refine tS ?_
  refine tR fun _ _ _ => ?_
  iterate 5 refine pV ?_
  exact tr_ret ⟨trivial, _, _, rfl, ⟨by simp, rfl⟩, CSub.nil _, trivial⟩
 ·try simp only [zbA] at h2
  rw [chkF_no hF] at h2
  omega --done
theorem law_open_ok_ent : Enters Try.prog 9 := enters_of Try.func9 (by kernel_rfl) (by kernel_rfl)
theorem law_open_ok (p m : Int) (A : Option Addr) (c : Nat) (mod : List Int) (hl9 : mod.length ≤ 17592186044415) (hF : FldR p m mod) :
  Pure Try.prog 9 #[.agg #[.int .i64 p, .int .i64 m, .slice A mod.length c]] [ro A (ints mod)] (one (fun v ch => ∃ g : GfM, v = .tuple #[.pointer (some g.p), .bool false, .bool true] ∧ ch = gfN g ∧ GOk g p m mod)) := by
 refine pure_of (args := [.agg #[.int .i64 p, .int .i64 m, .slice A mod.length c]]) 23 Try.func9 rfl rfl rfl law_open_ok_ent ⟨id, trivial⟩ (fun w0 => ?_)
 refine tS ?_
 refine tR fun _ _ _ => ?_
 refine eV (eBox rfl rfl rfl rfl rfl (fun p0 => ?_))
 iterate 3 refine pV ?_
 refine tS ?_
 refine tR fun _ _ _ => ?_
 refine sV (rLdS rfl rfl rfl) ?_
 refine eV (eCall1 rfl rfl rfl (fld_New_ok _ _ _ _ _ (by omega) hF) ⟨rfl, trivial⟩ ?_)
 rintro _ _ ⟨g, rfl, rfl, hg⟩
 iterate 5 refine pV ?_
 refine tS ?_
 refine tS ?_
 refine tR fun _ _ _ => ?_
 refine sV (rLdS rfl rfl rfl) ?_
 refine eV (eCallV rfl rfl rfl (ref_fldCheck _ _ _ _ _ (by omega)) ⟨rfl, trivial⟩ ?_)
 refine pV ?_
 refine tC rfl (fun h2 => ?_) (fun h2 => ?_)
 ·try simp only [zbA] at h2
  rw [chkF_ok hF] at h2
  exact absurd rfl h2 --done
 ·try simp only [zbA] at h2
  refine tK ?_
  refine tS ?_
  refine tS ?_
  refine tR fun _ _ _ => ?_
  iterate 3 refine pV ?_
  refine stg rfl rfl rfl rfl rfl (fun hb => by (have hq := hb; try simp only [zbA] at hq); exact rMove rfl rfl) ?_
  refine stg rfl rfl rfl rfl rfl (fun hb => by (have hq := hb; try simp only [zbA] at hq); exact rNilP rfl (evg rfl hb) rfl) ?_
  refine sV (rOrB rfl rfl rfl rfl) ?_
  refine tC rfl (fun h4 => ?_) (fun h4 => ?_)
  ·try simp only [zbA] at h4
   simp at h4 --done
  ·try simp only [zbA] at h4
   refine tK ?_
   refine tS ?_
   refine tR fun _ _ _ => ?_
   iterate 4 refine pV ?_
   exact tr_ret ⟨trivial, _, _, rfl, ⟨_, rfl, g, rfl, rfl, hg⟩, cs _ _, gfO_excl _ _ _, trivial⟩
end Go.Proofs.Ytdkahdehodopoaa

namespace Go.Proofs.Ytdkahdehodopoaa
section
variable {g : GfM} {p m : Int} {mod : List Int}
theorem GOk.fld (h : GOk g p m mod) : FldR p m mod := by
 obtain ⟨x, hx⟩ := h.gen
 exact fldN_iff.1 ⟨h.shp, x, _, hx⟩
theorem GOk.q2 (h : GOk g p m mod) : 2 ≤ g.q ∧ g.q ≤ 256 := by
 have h1 := h.shp.1.q2
 have h2 := h.shp.1.q
 have h3 := h.eq
 omega
theorem GOk.elen (h : GOk g p m mod) : (g.exp.length : Int) = g.q - 1 := by
 obtain ⟨x, hx⟩ := h.gen
 rw [h.eq]; exact hx.len
theorem GOk.llen' (h : GOk g p m mod) : (g.log.length : Int) = g.q := by
 have := h.llen
 have := h.q2
 omega
theorem GOk.log_spec (h : GOk g p m mod) {y : Int} (h0 : 0 < y) (h1 : y < g.q) : 0 ≤ g.log.getD y.toNat 0 ∧ g.log.getD y.toNat 0 < g.q - 1 ∧ g.exp.getD (g.log.getD y.toNat 0).toNat 0 = y := by
 obtain ⟨x, hx⟩ := h.gen
 have hl := h.elen
 have hm := hx.all h0 (by rw [← h.eq]; exact h1)
 obtain ⟨i, hi, he⟩ := List.getElem_of_mem hm
 have h2 := h.log i hi
 have h3 : g.exp.getD i 0 = y := by rw [List.getD_eq_getElem?_getD, List.getElem?_eq_getElem hi]; exact he
 rw [h3] at h2
 rw [h2]
 exact ⟨by omega, by omega, by rw [Int.toNat_natCast]; exact h3⟩
theorem GOk.exp_bd (h : GOk g p m mod) {i : Int} (h0 : 0 ≤ i) (h1 : i < g.q - 1) : 0 < g.exp.getD i.toNat 0 ∧ g.exp.getD i.toNat 0 < g.q := by
 obtain ⟨x, hx⟩ := h.gen
 have hl := h.elen
 have hi : i.toNat < g.exp.length := by omega
 have := hx.pow.nz _ (List.getElem_mem hi)
 rw [List.getD_eq_getElem?_getD, List.getElem?_eq_getElem hi, h.eq]
 exact this
theorem IsGen.pw_q {x : Int} {l : List Int} (hs : Shp p m mod) (hg : IsGen p m mod x l) : pwI p m mod x l.length = 1 := by
 have hx : 0 ≤ x ∧ x < pw p m := ⟨by have := hg.x1; omega, hg.x2⟩
 have h1 := hg.len
 have h2 := hg.pow.one
 have h3 := hg.pow.get (l.length - 1) (by omega)
 have h4 := hg.last
 rw [show (pw p m - 2).toNat = l.length - 1 by omega, h3, ← pwI_succ hs hx, show l.length - 1 + 1 = l.length by omega] at h4
 exact h4
theorem IsGen.pw_mod {x : Int} {l : List Int} (hs : Shp p m mod) (hg : IsGen p m mod x l) (n : Nat) : pwI p m mod x n = pwI p m mod x (n % l.length) := by
 have hx : 0 ≤ x ∧ x < pw p m := ⟨by have := hg.x1; omega, hg.x2⟩
 have key : ∀ k r, pwI p m mod x (l.length * k + r) = pwI p m mod x r := by
  intro k r
  induction k with
  | zero => simp
  | succ k ih =>
   have hb := pwI_bd hs hx (l.length * k + r)
   rw [show l.length * (k + 1) + r = l.length + (l.length * k + r) by rw [Nat.mul_succ]; omega, pwI_add hs hx, hg.pw_q hs, mulI_one hs hb.1 hb.2, ih]
 have h1 := key (n / l.length) (n % l.length)
 rwa [Nat.div_add_mod] at h1
theorem GOk.mul (h : GOk g p m mod) {a b : Int} (ha : 0 < a ∧ a < g.q) (hb : 0 < b ∧ b < g.q) : g.exp.getD ((g.log.getD a.toNat 0 + g.log.getD b.toNat 0) % (g.q - 1)).toNat 0 = mulI p m mod a b := by
 obtain ⟨x, hx⟩ := h.gen
 have hs := h.shp.1
 have hl := h.elen
 have hq := h.q2
 have hxb : 0 ≤ x ∧ x < pw p m := ⟨by have := hx.x1; omega, hx.x2⟩
 obtain ⟨i0, i1, i2⟩ := h.log_spec ha.1 ha.2
 obtain ⟨j0, j1, j2⟩ := h.log_spec hb.1 hb.2
 generalize g.log.getD a.toNat 0 = i at *
 generalize g.log.getD b.toNat 0 = j at *
 have h1 := hx.pow.get i.toNat (by omega)
 have h2 := hx.pow.get j.toNat (by omega)
 have e0 := Int.emod_nonneg (i + j) (show g.q - 1 ≠ 0 by omega)
 have e1 := Int.emod_lt_of_pos (i + j) (show 0 < g.q - 1 by omega)
 have h3 := hx.pow.get ((i + j) % (g.q - 1)).toNat (by omega)
 rw [i2] at h1
 rw [j2] at h2
 rw [h3, h1, h2, ← pwI_add hs hxb, hx.pw_mod hs (i.toNat + j.toNat)]
 congr 1
 have : (((i.toNat + j.toNat) % g.exp.length : Nat) : Int) = (i + j) % (g.q - 1) := by
  rw [← hl]
  simp only [Int.natCast_emod, Int.natCast_add]
  rw [Int.toNat_of_nonneg i0, Int.toNat_of_nonneg j0]
 omega
theorem GOk.inv (h : GOk g p m mod) {a : Int} (ha : 0 < a ∧ a < g.q) : g.exp.getD ((g.q - 1 - g.log.getD a.toNat 0) % (g.q - 1)).toNat 0 = invI p m mod a := by
 have hs := h.shp.1
 have hq := h.q2
 have heq := h.eq
 have hF := h.fld
 obtain ⟨i0, i1, i2⟩ := h.log_spec ha.1 ha.2
 have e0 := Int.emod_nonneg (g.q - 1 - g.log.getD a.toNat 0) (show g.q - 1 ≠ 0 by omega)
 have e1 := Int.emod_lt_of_pos (g.q - 1 - g.log.getD a.toNat 0) (show 0 < g.q - 1 by omega)
 have hb := h.exp_bd e0 e1
 have hi := invI_spec hF (z := a) ⟨ha.1, by omega⟩
 refine mul_inj hF (z := a) ⟨by omega, by omega⟩ ⟨hi.1, hi.2.1⟩ ⟨ha.1, by omega⟩ ?_
 rw [hi.2.2, ← h.mul hb ha]
 obtain ⟨j0, j1, j2⟩ := h.log_spec hb.1 hb.2
 obtain ⟨x, hx⟩ := h.gen
 have hl := h.elen
 -- the logarithm of exp k is k
 have h5 : g.log.getD (g.exp.getD ((g.q - 1 - g.log.getD a.toNat 0) % (g.q - 1)).toNat 0).toNat 0 = (g.q - 1 - g.log.getD a.toNat 0) % (g.q - 1) := by
  have := h.log ((g.q - 1 - g.log.getD a.toNat 0) % (g.q - 1)).toNat (by omega)
  rw [this]; omega
 rw [h5]
 have h6 : ((g.q - 1 - g.log.getD a.toNat 0) % (g.q - 1) + g.log.getD a.toNat 0) % (g.q - 1) = 0 := by
  rw [Int.emod_add_emod, show g.q - 1 - g.log.getD a.toNat 0 + g.log.getD a.toNat 0 = g.q - 1 by omega, Int.emod_self]
 rw [h6]
 have := hx.pow.get 0 (by omega)
 exact this
structure OrdI (p m : Int) (mod : List Int) (y : Int) (t : Nat) : Prop where
 pos : 1 ≤ t
 one : pwI p m mod y t = 1
 least : ∀ s, 1 ≤ s → s < t → pwI p m mod y s ≠ 1
theorem OrdI.unique {y : Int} {t t' : Nat} (h : OrdI p m mod y t) (h' : OrdI p m mod y t') : t = t' := by
 rcases Nat.lt_trichotomy t t' with h1 | h1 | h1
 ·exact absurd h.one (h'.least t h.pos h1)
 ·exact h1
 ·exact absurd h'.one (h.least t' h'.pos h1)
open Classical in
noncomputable def mord (p m : Int) (mod : List Int) (y : Int) : Nat := if h : ∃ t, OrdI p m mod y t then Classical.choose h else 0
theorem OrdI.eq {y : Int} {t : Nat} (h : OrdI p m mod y t) : mord p m mod y = t := by
 have h1 : ∃ t, OrdI p m mod y t := ⟨t, h⟩
 rw [mord, dif_pos h1]
 exact (Classical.choose_spec h1).unique h
theorem pwI_mul (hs : Shp p m mod) {x : Int} (hx : 0 ≤ x ∧ x < pw p m) (i : Nat) : ∀ t, pwI p m mod (pwI p m mod x i) t = pwI p m mod x (i * t)
 | 0 => rfl
 | t + 1 => by
  rw [pwI_succ hs (pwI_bd hs hx i), pwI_mul hs hx i t, ← pwI_add hs hx, Nat.mul_succ]
theorem IsGen.pw_one {x : Int} {l : List Int} (hs : Shp p m mod) (hg : IsGen p m mod x l) (k : Nat) : pwI p m mod x k = 1 ↔ l.length ∣ k := by
 have h1 := hg.pow.one
 rw [hg.pw_mod hs k]
 constructor
 ·intro h
  refine Nat.dvd_of_mod_eq_zero ?_
  have h2 := hg.pow.get (k % l.length) (Nat.mod_lt _ h1)
  have h3 := hg.pow.get 0 (by omega)
  have h4 : pwI p m mod x 0 = 1 := rfl
  rcases Nat.eq_zero_or_pos (k % l.length) with h5 | h5
  ·exact h5
  ·exfalso
   have h6 := Nat.mod_lt k h1
   rw [h, ← h4, ← h3] at h2
   rw [List.getD_eq_getElem?_getD, List.getElem?_eq_getElem h6, List.getD_eq_getElem?_getD, List.getElem?_eq_getElem (show 0 < l.length by omega)] at h2
   exact (List.pairwise_iff_getElem.1 hg.pow.nodup) 0 (k % l.length) (by omega) h6 h5 (by simpa using h2.symm)
 ·intro h
  rw [Nat.mod_eq_zero_of_dvd h]; rfl
theorem GOk.ord (h : GOk g p m mod) {y : Int} (hy : 0 < y ∧ y < g.q) : OrdI p m mod y ((g.q - 1).toNat / Nat.gcd (g.q - 1).toNat (g.log.getD y.toNat 0).toNat) := by
 obtain ⟨x, hx⟩ := h.gen
 have hs := h.shp.1
 have hl := h.elen
 have hq := h.q2
 have hxb : 0 ≤ x ∧ x < pw p m := ⟨by have := hx.x1; omega, hx.x2⟩
 obtain ⟨i0, i1, i2⟩ := h.log_spec hy.1 hy.2
 generalize (g.log.getD y.toNat 0) = i at *
 have hn : g.exp.length = (g.q - 1).toNat := by omega
 have h1 := hx.pow.get i.toNat (by omega)
 rw [i2] at h1
 generalize i.toNat = k at *
 have hone := fun t => hx.pw_one hs (k * t)
 rw [hn] at hone
 generalize hN : (g.q - 1).toNat = n at *
 have hn0 : 0 < n := by omega
 have hg0 : 0 < Nat.gcd n k := Nat.gcd_pos_of_pos_left _ hn0
 have hdn : Nat.gcd n k ∣ n := Nat.gcd_dvd_left _ _
 have hdk : Nat.gcd n k ∣ k := Nat.gcd_dvd_right _ _
 have hpos : 1 ≤ n / Nat.gcd n k := Nat.div_pos (Nat.le_of_dvd hn0 hdn) hg0
 have key : ∀ t, n ∣ k * t ↔ n / Nat.gcd n k ∣ t := fun t => by
  have hc : Nat.Coprime (n / Nat.gcd n k) (k / Nat.gcd n k) := Nat.coprime_div_gcd_div_gcd hg0
  have e1 : n = Nat.gcd n k * (n / Nat.gcd n k) := (Nat.mul_div_cancel' hdn).symm
  have e2 : k = Nat.gcd n k * (k / Nat.gcd n k) := (Nat.mul_div_cancel' hdk).symm
  constructor
  ·intro hd
   have h3 : Nat.gcd n k * (n / Nat.gcd n k) ∣ Nat.gcd n k * ((k / Nat.gcd n k) * t) := by
    rw [← e1, ← Nat.mul_assoc, ← e2]; exact hd
   exact hc.dvd_of_dvd_mul_left (Nat.dvd_of_mul_dvd_mul_left hg0 h3)
  ·rintro ⟨c, rfl⟩
   have : k * (n / Nat.gcd n k * c) = n * ((k / Nat.gcd n k) * c) := by
    clear hpos hc
    generalize n / Nat.gcd n k = a at e1 e2 ⊢
    generalize k / Nat.gcd n k = b at e1 e2 ⊢
    generalize Nat.gcd n k = d at e1 e2 ⊢
    calc k * (a * c) = (d * b) * (a * c) := by rw [← e2]
     _ = (d * a) * (b * c) := by ac_rfl
     _ = n * (b * c) := by rw [← e1]
   rw [this]
   exact Nat.dvd_mul_right _ _
 refine ⟨hpos, ?_, fun s hs1 hs2 he => ?_⟩
 ·rw [h1, pwI_mul hs hxb, hone, key]
  exact Nat.dvd_refl _
 ·rw [h1, pwI_mul hs hxb, hone, key] at he
  have := Nat.le_of_dvd (by omega) he
  omega
end
end Go.Proofs.Ytdkahdehodopoaa

set_option maxRecDepth 100000
namespace Go.Proofs.Ytdkahdehodopoaa
open Go.RowKit
theorem gf_in_ent : Enters Try.prog 91 := enters_of Try.func91 (by kernel_rfl) (by kernel_rfl)
theorem gf_in (g : GfM) (x : Int) :
  Pure Try.prog 91 #[.pointer (some g.p), .int .i64 x] [gfR g] (isV (.int .i64 (inI g.q x))) := by
 refine pure_of (args := [.pointer (some g.p), .int .i64 x]) 9 Try.func91 rfl rfl rfl gf_in_ent ⟨id, trivial⟩ (fun w0 => ?_)
 refine tS ?_
 refine tR fun _ _ _ => ?_
 refine pV ?_
 refine tS ?_
 refine tS ?_
 refine tR fun _ _ _ => ?_
 iterate 2 refine pV ?_
 refine eV (eCallV rfl rfl rfl (gf_Is _ _) ⟨rfl, rfl, trivial⟩ ?_)
 refine tC rfl (fun h1 => ?_) (fun h1 => ?_)
 ·try simp only [zbA] at h1
  refine tS ?_
  refine tR fun _ _ _ => ?_
  iterate 2 refine pV ?_
  exact tr_ret ⟨trivial, _, _, rfl, ⟨by rw [inI, if_pos ⟨by omega, by omega⟩], rfl⟩, CSub.nil _, trivial⟩
 ·try simp only [zbA] at h1
  refine tK ?_
  refine tS ?_
  refine tR fun _ _ _ => ?_
  refine pV ?_
  exact tr_ret ⟨trivial, _, _, rfl, ⟨by rw [inI, if_neg (by omega)], rfl⟩, CSub.nil _, trivial⟩
theorem gf_Order_ent : Enters Try.prog 41 := enters_of Try.func41 (by kernel_rfl) (by kernel_rfl)
theorem gf_Order (g : GfM) :
  Pure Try.prog 41 #[.pointer (some g.p)] [gfR g] (isV (.int .i64 g.q)) := by
 refine pure_of (args := [.pointer (some g.p)]) 7 Try.func41 rfl rfl rfl gf_Order_ent ⟨id, trivial⟩ (fun w0 => ?_)
 refine tS ?_
 refine tR fun _ _ _ => ?_
 refine pV ?_
 refine tS ?_
 refine tR fun _ _ _ => ?_
 refine pV ?_
 refine sV (rNil rfl rfl) ?_
 refine sV (rFld rfl rfl) ?_
 refine sV (rLdF rfl rfl rfl) ?_
 refine pV ?_
 exact tr_ret ⟨trivial, _, _, rfl, ⟨rfl, rfl⟩, CSub.nil _, trivial⟩
end Go.Proofs.Ytdkahdehodopoaa

set_option maxRecDepth 100000
namespace Go.Proofs.Ytdkahdehodopoaa
open Go.RowKit
end Go.Proofs.Ytdkahdehodopoaa

namespace Go.Proofs.Ytdkahdehodopoaa
open Go.ChangeShapes Go.WideShapes Go.ChangeAt Go.RowKit Go.Deep
def Fits (n : Int) : Prop := -9223372036854775808 ≤ n ∧ n ≤ 9223372036854775807
theorem fits_of_wf {n : Int} (h : (Lit.int .i64 n).wf = true) : Fits n := by
 simp [Lit.wf, IntKind.min, IntKind.max, IntKind.bits, IntKind.signed] at h
 unfold Fits
 omega
section
variable {H : Type} {enc : TypeId × Value → H} {P : Program} {w : World} {held : Bool} {t e : TypeId} {fuel : Nat} {cs : List Value} {x : DataW H × List MemPlace}
theorem open_I (ht : P.underlying t = some (.int .i64)) (h : DataW.trod enc P w 0 (fun _ => true) held fuel t cs = some x) : ∃ n, cs = [.int .i64 n] ∧ Fits n := by
 obtain ⟨n, h1, _, h3⟩ := DataW.trod_int ht h
 exact ⟨n, h1, fits_of_wf h3⟩
end
section
variable {H : Type} {enc : TypeId × Value → H} {P : Program} {w : World} {b : Nat} {t e : TypeId} {v : Value} {d : DataW H} {p : List MemPlace}
theorem get_I (ht : P.underlying t = some (.int .i64)) (hv : Value.okWide P w .any b t v) (h : DataW.Trod enc P w 0 (fun _ => true) true t v d p) : ∃ n, v = .int .i64 n ∧ Fits n := by
 obtain ⟨n, rfl, _, _, hn⟩ := open_int ht hv h
 exact ⟨n, rfl, fits_of_wf hn⟩
def fdInfo (P : Program) (t : TypeId) (i : Nat) : Option (Nat × TypeId × Nat) :=
 match P.underlying t with
 | some (.struct fs) => (fs[i]?).map fun f => (f.offset, f.type, P.cellsOf f.type)
 | _ => none
def isSt (P : Program) (t : TypeId) : Bool := match P.underlying t with | some (.struct _) => true | _ => false
end
def Light {H : Type} (P : Program) (t : TypeId) (d : DataW H) : Prop := ∀ n ∈ d.weights P t, n ≤ reachBytes
theorem light_of {H : Type} {P : Program} {ts : List TypeId} {ds : List (DataW H)} (h : (DataW.weightsEach P ts ds).all (· ≤ reachBytes) = true) {j : Nat} {t : TypeId} {d : DataW H} (ht : ts[j]? = some t) (hd : ds[j]? = some d) : Light P t d := fun n hn => by
 have := List.all_eq_true.1 h _ (DataW.weights_mem_each ht hd n hn)
 simpa using this
section
variable {H : Type} {enc : TypeId × Value → H} {P : Program} {w : World} {held : Bool} {t e : TypeId} {fuel : Nat} {cs : List Value} {x : DataW H × List MemPlace}
theorem open_ISw (ht : P.underlying t = some (.slice e)) (he : P.underlying e = some (.int .i64)) (hc : P.cellsOf e = 1) (hb : P.bytesOf e = 8) (hw : Light P t x.1) (h : DataW.trod enc P w 0 (fun _ => true) held fuel t cs = some x) :
  ∃ (A : Option Addr) (c : Nat) (xs : List Int), cs = [.slice A xs.length c] ∧ xs.length ≤ c ∧ (ro A (ints xs)).sat w ∧ (∀ z ∈ xs, Fits z) ∧ xs.length ≤ 17592186044415 := by
 rcases open_ints ht he hc h with ⟨rfl, _⟩ | ⟨a, len, cap, zs, rfl, _, hl, hm, hz, hx, hcell, hwz⟩
 ·exact ⟨none, 0, [], rfl, Nat.le_refl _, fun j hj => by simp [ints] at hj, fun z hz => by simp at hz, by simp⟩
 ·simp only [if_true] at hz
  have hlen : (zs.take len).length = len := by rw [List.length_take]; omega
  have hwt := hw (((lits .i64 (zs.take len) : List (DataW H)).length + (lits .i64 (zs.drop len) : List (DataW H)).length) * P.bytesOf e) (by rw [hx]; simp [DataW.weights, ht])
  refine ⟨some a, cap, zs.take len, by rw [hlen], by rw [hlen]; exact hl, fun j hj => ?_, fun z hz' => fits_of_wf (hwz z (List.mem_of_mem_take hz')), ?_⟩
  ·rw [ints_length, hlen] at hj
   refine ⟨a, rfl, ?_⟩
   rw [hcell j (by omega)]
   have hj' : j < zs.length := by omega
   simp [ints, hj']
  ·rw [hb] at hwt
   simp only [lits, List.length_map, hlen, reachBytes] at hwt
   omega
end
section
variable {H : Type} {enc : TypeId × Value → H} {P : Program} {w : World} {b : Nat} {t e : TypeId} {v : Value} {d : DataW H} {p : List MemPlace}
theorem get_FdW (hst : isSt P t = true) (hw : Light P t d) (hv : Value.okWide P w .any b t v) (h : DataW.Trod enc P w 0 (fun _ => true) true t v d p) :
  ∃ l : List Value, v = .agg l.toArray ∧ l.length = P.cellsOf t ∧ ∀ (i off : Nat) (ty : TypeId) (n : Nat), fdInfo P t i = some (off, ty, n) → ∃ m y, DataW.trod enc P w 0 (fun _ => true) true m ty ((l.drop off).take n) = some y ∧ Light P ty y.1 := by
 unfold isSt at hst
 split at hst
 ·rename_i fs hu
  obtain ⟨cs, rfl, _⟩ := okWide_struct hu hv
  obtain ⟨fuel, hf⟩ := h
  obtain ⟨xs, n, _, hx, h1, h2, h3⟩ := DataW.trod_struct hu hf
  have hd : d = .agg (xs.map (·.1)) := congrArg Prod.fst hx
  refine ⟨cs.toList, rfl, h1, fun i off ty k hi => ?_⟩
  simp only [fdInfo, hu] at hi
  cases hfi : fs[i]? with
  | none => simp [hfi] at hi
  | some f =>
   simp only [hfi, Option.map_some, Option.some.injEq, Prod.mk.injEq] at hi
   obtain ⟨rfl, rfl, rfl⟩ := hi
   have hlt : i < xs.length := by rw [h2]; exact (Array.getElem?_eq_some_iff.1 hfi).1
   refine ⟨n, xs[i], (h3 i f hfi).trans (List.getElem?_eq_getElem hlt), fun k hk => hw k ?_⟩
   rw [hd]
   simp only [DataW.weights, hu]
   refine DataW.weights_mem_each (j := i) (t := f.type) (d := xs[i].1) (by simp [hfi]) (by simp [hlt]) k hk
 ·cases hst
end
section
variable {H : Type} {enc : TypeId × Value → H} {P : Program} {w : World} {held : Bool} {t e f : TypeId} {fuel : Nat} {cs : List Value} {x : DataW H × List MemPlace}
instance : Inhabited RowM := ⟨rowD⟩
end
theorem joined_of {P : Program} {f : FuncId} {fn : Func} {s : ChangeSpec} {c : OpenClaim}
  (h1 : (c.wf (OpenSpec.ofChange s) && laidOutB P && mapsRowed P && fn.params.all (P.readableRec ·) && namedTie P c.named s.vars && (c.stops == []) && (P.stops == []) && (c.knobs == []) && (P.stopKnobs == [])) = true)
  (h2 : (c.inPlace == P.inPlace f) = true) (h3 : (c.unfollowed == P.unfollowed f) = true) (h4 : (c.recurses == P.recurses f) = true) (h5 : (c.named == P.varsNamed f) = true)
  (h6 : (c.maps == (fn.params.toList ++ s.plain.varTypes P).any (P.mapsRec ·)) = true) (h7 : (c.ifaces == (fn.params.toList ++ s.plain.varTypes P).any (P.ifacesRec ·)) = true) (h8 : (c.mapsOut == P.mapsAmong fn.resultTypes.toList) = true)
  (h9 : (c.loops == (fn.params.toList ++ s.plain.varTypes P).any (P.loopsFrom ·)) = true) (h10 : (c.wideKeys == (fn.params.toList ++ s.plain.varTypes P ++ fn.resultTypes.toList).any (P.wideKeysFrom ·)) = true)
  (h11 : s.vars.all (P.varReadable ·) = true) (h12 : fn.resultTypes.all (fun t => P.readableRec t && decide (t < P.types.size)) = true) (h13 : (c.ifacesOut == fn.resultTypes.toList.any (P.ifacesRec ·)) = true) (h14 : (c.loopsOut == fn.resultTypes.toList.any (P.loopsFrom ·)) = true)
  (h15 : (c.plainKeys == P.plainKeys) = true) (h16 : c.shortTexts.isNone = true) (h17 : P.stopsHeard = true) (h18 : P.mayEnter = true) (h19 : (c.lifted == P.liftsFinal) = true) (h20 : (P.make == some c.make) = true)
  (h21 : (c.kinds == (if c.domain.isEmpty then [] else fn.params.toList.map fun t => match P.underlying t with | some (.int k) => some k | _ => none)) = true) (h22 : (c.pinned == c.pinnedBy) = true)
  (h23 : (c.veiled == (fn.params.toList ++ s.plain.varTypes P ++ fn.resultTypes.toList).any (P.veiledRec ·)) = true) (h24 : c.veiledFits P fn.params.toList (fn.params.toList ++ s.plain.varTypes P ++ fn.resultTypes.toList) = true) : joinedFacts P f fn s c = true := by
 unfold joinedFacts
 simp only [Bool.and_eq_true] at h1 ⊢
 obtain ⟨⟨⟨⟨⟨⟨⟨⟨a1, a2⟩, a3⟩, a4⟩, a5⟩, a6⟩, a7⟩, a8⟩, a9⟩ := h1
 and_intros <;> assumption
end Go.Proofs.Ytdkahdehodopoaa

set_option maxRecDepth 100000
namespace Go.Proofs.Ytdkahdehodopoaa
open Go.ChangeShapes Go.WideShapes Go.ChangeAt Go.RowKit
theorem get_F {H : Type} {enc : TypeId × Value → H} {w : World} {b : Nat} {v : Value} {d : DataW H} {p : List MemPlace} (hw : Light Try.prog 24 d) (hv : Value.okWide Try.prog w .any b 24 v) (h : DataW.Trod enc Try.prog w 0 (fun _ => true) true 24 v d p) :
  ∃ (P M : Int) (A : Option Addr) (c : Nat) (mod : List Int), v = .agg #[.int .i64 P, .int .i64 M, .slice A mod.length c] ∧ (ro A (ints mod)).sat w ∧ mod.length ≤ 17592186044415 := by
 obtain ⟨l, rfl, h1, h2⟩ := get_FdW (by kernel_rfl) hw hv h
 have hl : l.length = 3 := h1.trans (by kernel_rfl)
 obtain ⟨n0, y0, hy0, _⟩ := h2 0 0 3 1 (by kernel_rfl)
 obtain ⟨a0, e0, _⟩ := open_I Try.underlying3 hy0
 obtain ⟨n1, y1, hy1, _⟩ := h2 1 1 3 1 (by kernel_rfl)
 obtain ⟨a1, e1, _⟩ := open_I Try.underlying3 hy1
 obtain ⟨n2, y2, hy2, hl2⟩ := h2 2 2 22 1 (by kernel_rfl)
 obtain ⟨A, c, xs, e2, _, h3, _, h4⟩ := open_ISw Try.underlying22 Try.underlying3 (by kernel_rfl) (by kernel_rfl) hl2 hy2
 match l, hl with
 | [b0, b1, b2], _ =>
  simp at e0 e1 e2
  exact ⟨a0, a1, A, c, xs, by rw [e0, e1, e2], h3, h4⟩
end Go.Proofs.Ytdkahdehodopoaa

namespace Go.Proofs.Ytdkahdehodopoaa
open Rg
theorem trimL_beyond : ∀ (xs : List Int) (j : Nat), (trimL xs).length ≤ j → xs.getD j 0 = 0
 | [], j, _ => rfl
 | x :: xs, j, h => by
  rw [trimL] at h
  split at h
  ·rename_i h0
   cases j with
   | zero =>
    split at h
    ·rename_i hx; rw [hx]; rfl
    ·simp at h
   | succ j =>
    have := trimL_beyond xs j (by rw [h0]; simp)
    simpa using this
  ·rename_i y ys h0
   cases j with
   | zero => simp at h
   | succ j =>
    have := trimL_beyond xs j (by rw [h0]; simpa using h)
    simpa using this
theorem trimL_last : ∀ (xs : List Int) (k : Nat), (trimL xs).length = k + 1 → xs.getD k 0 ≠ 0
 | [], k, h => by simp [trimL] at h
 | x :: xs, k, h => by
  rw [trimL] at h
  split at h
  ·split at h
   ·simp at h
   ·rename_i hx
    simp at h
    subst h
    exact hx
  ·rename_i y ys h0
   cases k with
   | zero => simp at h
   | succ k =>
    have := trimL_last xs k (by rw [h0]; simpa using h)
    simpa using this
theorem trimL_getD (xs : List Int) (j : Nat) : (trimL xs).getD j 0 = xs.getD j 0 := by
 by_cases h : j < (trimL xs).length
 ·conv => rhs; rw [trimL_split xs]
  rw [List.getD_eq_getElem?_getD, List.getD_eq_getElem?_getD, List.getElem?_append_left h]
 ·rw [trimL_beyond xs j (by omega), List.getD_eq_getElem?_getD, List.getElem?_eq_none (by omega)]; rfl
class IsF (p m : Int) (mod : List Int) : Prop where
 out : FldR p m mod
noncomputable instance elF (p m : Int) (mod : List Int) [h : IsF p m mod] : Fd (El p m mod) := elFd h.out
theorem IsF.q2 {p m : Int} {mod : List Int} (h : IsF p m mod) : 2 ≤ pw p m := h.out.1.1.q2
theorem IsF.ord {p m : Int} {mod : List Int} (h : IsF p m mod) : ordI p m = pw p m := h.out.1.1.ord
section
variable {p m : Int} {mod : List Int} [hF : IsF p m mod]
def el (x : Int) : El p m mod := ⟨inI (pw p m) x, inI_bd (by have := hF.q2; omega) x⟩
theorem el_in {x : Int} (h : 0 ≤ x ∧ x < pw p m) : (el x : El p m mod).1 = x := inI_in h.1 h.2
theorem el_of (a : El p m mod) : el a.1 = a := El.ext (inI_in a.2.1 a.2.2)
theorem el_zero : (el 0 : El p m mod) = 0 := El.ext (inI_in (Int.le_refl 0) (by have := hF.q2; omega))
theorem el_one : (el 1 : El p m mod) = 1 := El.ext (inI_in (by omega) (by have := hF.q2; omega))
theorem one_val : (1 : El p m mod).1 = 1 := rfl
theorem add_val (a b : El p m mod) : (a + b).1 = addI p m a.1 b.1 := rfl
theorem val_zero_iff (a : El p m mod) : a.1 = 0 ↔ a = 0 := ⟨fun h => El.ext h, fun h => by rw [h]; rfl⟩
noncomputable def pol (l : List Int) : Po (El p m mod) := ⟨fun j => el (l.getD j 0), l.length, fun j hj => by
 show el (l.getD j 0) = 0
 rw [List.getD_eq_getElem?_getD, List.getElem?_eq_none hj]; exact el_zero⟩
theorem cf_pol (l : List Int) (j : Nat) : Po.cf (pol l : Po (El p m mod)) j = el (l.getD j 0) := rfl
theorem pol_sh (l : List Int) : Po.Sh (pol l : Po (El p m mod)) l.length := fun j hj => by
 rw [cf_pol, List.getD_eq_getElem?_getD, List.getElem?_eq_none hj]; exact el_zero
noncomputable def il (f : Po (El p m mod)) : List Int := (List.range (Po.len f)).map fun j => (Po.cf f j).1
theorem il_length (f : Po (El p m mod)) : (il f).length = Po.len f := by simp [il]
theorem il_getD (f : Po (El p m mod)) (j : Nat) : (il f).getD j 0 = (Po.cf f j).1 := by
 by_cases h : j < Po.len f
 ·rw [List.getD_eq_getElem?_getD, List.getElem?_eq_getElem (by rw [il_length]; exact h)]
  simp [il]
 ·rw [List.getD_eq_getElem?_getD, List.getElem?_eq_none (by rw [il_length]; omega), Po.cf_ge (by omega)]; rfl
theorem il_in (f : Po (El p m mod)) : AllIn (pw p m) (il f) := fun c hc => by
 obtain ⟨j, _, rfl⟩ := List.mem_map.1 hc
 exact (Po.cf f j).2
theorem pol_il (f : Po (El p m mod)) : pol (il f) = f := Po.ext fun j => by rw [cf_pol, il_getD, el_of]
theorem getD_map0 (q : Int) (l : List Int) (j : Nat) : (l.map (inI q)).getD j 0 = inI q (l.getD j 0) := by
 by_cases h : j < l.length
 ·simp [List.getD_eq_getElem?_getD, h]
 ·rw [List.getD_eq_getElem?_getD, List.getElem?_eq_none (by simpa using h), List.getD_eq_getElem?_getD, List.getElem?_eq_none (by omega)]
  simp [inI]
theorem len_pol (l : List Int) : Po.len (pol l : Po (El p m mod)) = (canL (pw p m) l).length := by
 have hb : ∀ j, (canL (pw p m) l).length ≤ j → Po.cf (pol l : Po (El p m mod)) j = 0 := fun j hj => by
  have h1 := trimL_beyond (l.map (inI (pw p m))) j hj
  rw [getD_map0] at h1
  exact El.ext h1
 rcases Nat.eq_zero_or_pos (canL (pw p m) l).length with h | h
 ·rw [h] at hb ⊢
  exact Nat.le_zero.1 (Po.len_le hb)
 ·obtain ⟨k, hk⟩ : ∃ k, (canL (pw p m) l).length = k + 1 := ⟨_, (Nat.sub_add_cancel h).symm⟩
  rw [hk] at hb ⊢
  refine Po.len_eq hb fun h0 => ?_
  have h1 := trimL_last (l.map (inI (pw p m))) k hk
  rw [getD_map0] at h1
  exact h1 (congrArg Subtype.val h0)
theorem ext_getD {a b : List Int} (hl : a.length = b.length) (h : ∀ j, a.getD j 0 = b.getD j 0) : a = b := List.ext_getElem hl fun j h1 h2 => by
 have := h j
 rw [List.getD_eq_getElem?_getD, List.getElem?_eq_getElem h1, List.getD_eq_getElem?_getD, List.getElem?_eq_getElem h2] at this
 exact this
theorem il_pol (l : List Int) : il (pol l : Po (El p m mod)) = canL (pw p m) l := ext_getD (by rw [il_length, len_pol]) fun j => by
 rw [il_getD, cf_pol]
 unfold canL
 rw [trimL_getD, getD_map0]; rfl
theorem canL_of_in {q : Int} {l : List Int} (h : AllIn q l) : canL q l = trimL l := by
 unfold canL
 congr 1
 conv => rhs; rw [← List.map_id l]
 exact List.map_congr_left fun x hx => inI_in (h x hx).1 (h x hx).2
theorem il_trim {l : List Int} (h : AllIn (pw p m) l) : il (pol l : Po (El p m mod)) = trimL l := by rw [il_pol, canL_of_in h]
theorem pol_nil : (pol [] : Po (El p m mod)) = 0 := Po.ext fun j => el_zero
theorem il_zero : il (0 : Po (El p m mod)) = [] := by unfold il; rw [Po.len_zero]; rfl
theorem il_self {l : List Int} (h : AllIn (pw p m) l) (h0 : l = [] ∨ l.getD (l.length - 1) 0 ≠ 0) : il (pol l : Po (El p m mod)) = l := by
 rw [il_trim h]
 have h1 := trim_done (xs := l) (k := l.length) (Nat.le_refl _) (by rw [List.take_length]) (by
  rcases h0 with h0 | h0
  ·exact .inl (by rw [h0]; rfl)
  ·exact .inr h0)
 rw [trimL_take, h1, List.take_length]
end
end Go.Proofs.Ytdkahdehodopoaa

namespace Go.Proofs.Ytdkahdehodopoaa
def addD (p : Int) : Nat → Int → Int → Int
 | 0, _, _ => 0
 | n + 1, x, y => (x % p + y % p) % p + p * addD p n (x / p) (y / p)
def negD (p : Int) : Nat → Int → Int
 | 0, _ => 0
 | n + 1, x => (p - x % p) % p + p * negD p n (x / p)
theorem dg_head (p : Int) (M : Nat) (x : Int) : dg p (M + 1) x 0 = x % p := rfl
theorem rv_head (p : Int) (M : Nat) (u : Row) : rv p (M + 1) u = u 0 % p + p * rv p M (fun j => u (j + 1)) := by
 unfold rv
 rw [List.range_succ_eq_map, List.map_cons, List.map_map, vl]
 rfl
theorem add_rec (p : Int) : ∀ (M : Nat) (x y : Int), rv p M ((dg p M x).add (dg p M y)) = addD p M x y
 | 0, _, _ => rfl
 | M + 1, x, y => by
  rw [rv_head, addD, ← add_rec p M]
  rfl
theorem addI_rec (p m x y : Int) : addI p m x y = addD p m.toNat x y := add_rec p _ x y
theorem neg_rec {p : Int} (hp : 2 ≤ p) : ∀ (M : Nat) (x : Int), rv p M (Row.sm (-1) (dg p M x)) = negD p M x
 | 0, _ => rfl
 | M + 1, x => by
  rw [rv_head, negD, ← neg_rec hp M]
  have h1 : Row.sm (-1) (dg p (M + 1) x) 0 % p = (p - x % p) % p := by
   simp only [Row.sm, dg_head]
   rw [show (-1 : Int) * (x % p) = (p - x % p) + p * (-1) by omega, Int.add_mul_emod_self_left]
  rw [h1]
  rfl
theorem negI_rec {p : Int} (hp : 2 ≤ p) (m x : Int) : negI p m x = negD p m.toNat x := neg_rec hp _ x
theorem addD_bd {p : Int} (hp : 2 ≤ p) : ∀ (n : Nat) (x y : Int), 0 ≤ addD p n x y ∧ addD p n x y < p ^ n := fun n x y => by
 have := rv_bd hp n ((dg p n x).add (dg p n y))
 rwa [add_rec] at this
theorem negD_bd {p : Int} (hp : 2 ≤ p) : ∀ (n : Nat) (x : Int), 0 ≤ negD p n x ∧ negD p n x < p ^ n := fun n x => by
 have := rv_bd hp n (Row.sm (-1) (dg p n x))
 rwa [neg_rec hp] at this
theorem addD_zero (p : Int) : ∀ n : Nat, addD p n 0 0 = 0
 | 0 => rfl
 | n + 1 => by simp [addD, addD_zero p n]
theorem negD_zero (p : Int) : ∀ n : Nat, negD p n 0 = 0
 | 0 => rfl
 | n + 1 => by simp [negD, negD_zero p n]
theorem ediv_lt_pow {p x : Int} (hp : 2 ≤ p) {n : Nat} (h : x < p ^ (n + 1)) : x / p < p ^ n := Int.ediv_lt_of_lt_mul (by omega) (by rwa [Int.pow_succ] at h)
theorem xor_rec : ∀ (n x y : Nat), x < 2 ^ n → y < 2 ^ n → addD 2 n x y = ((x ^^^ y : Nat) : Int)
 | 0, x, y, hx, hy => by
  have h1 : x = 0 := by simpa using hx
  have h2 : y = 0 := by simpa using hy
  subst h1; subst h2
  simp [addD]
 | n + 1, x, y, hx, hy => by
  have h1 : x / 2 < 2 ^ n := by rw [Nat.pow_succ] at hx; omega
  have h2 : y / 2 < 2 ^ n := by rw [Nat.pow_succ] at hy; omega
  have ih := xor_rec n (x / 2) (y / 2) h1 h2
  rw [addD]
  have e1 : ((x : Int) / 2) = ((x / 2 : Nat) : Int) := by omega
  have e2 : ((y : Int) / 2) = ((y / 2 : Nat) : Int) := by omega
  rw [e1, e2, ih, ← Nat.xor_div_two]
  have e3 : (x ^^^ y) % 2 = (x + y) % 2 := by
   have h3 := Nat.xor_mod_two_pow (a := x) (b := y) (n := 1)
   rw [Nat.pow_one] at h3
   rw [h3]
   rcases Nat.mod_two_eq_zero_or_one x with hx0 | hx0 <;> rcases Nat.mod_two_eq_zero_or_one y with hy0 | hy0 <;> rw [hx0, hy0] <;> simp <;> omega
  have e4 := Nat.div_add_mod (x ^^^ y) 2
  have e5 : ((x : Int) % 2 + (y : Int) % 2) % 2 = (((x + y) % 2 : Nat) : Int) := by omega
  rw [e5, ← e3]
  omega
theorem addI_two {m x y : Int} (hx : 0 ≤ x ∧ x < pw 2 m) (hy : 0 ≤ y ∧ y < pw 2 m) : addI 2 m x y = ((x.toNat ^^^ y.toNat : Nat) : Int) := by
 rw [addI_rec]
 have h1 : ((2 ^ m.toNat : Nat) : Int) = pw 2 m := by rw [Int.natCast_pow]; rfl
 have := xor_rec m.toNat x.toNat y.toNat (by omega) (by omega)
 rwa [Int.toNat_of_nonneg hx.1, Int.toNat_of_nonneg hy.1] at this
section
end
end Go.Proofs.Ytdkahdehodopoaa

set_option maxRecDepth 100000
namespace Go.Proofs.Ytdkahdehodopoaa
open Go.RowKit Go.Shelf
attribute [local go_sem] Oper.semAt_some
end Go.Proofs.Ytdkahdehodopoaa

set_option maxRecDepth 100000
namespace Go.Proofs.Ytdkahdehodopoaa
open Go.RowKit
end Go.Proofs.Ytdkahdehodopoaa

namespace Go.Proofs.Ytdkahdehodopoaa
theorem asc_eq : ∀ (a b : List Int), a.Pairwise (· < ·) → b.Pairwise (· < ·) → (∀ x, x ∈ a ↔ x ∈ b) → a = b
 | [], [], _, _, _ => rfl
 | [], y :: b, _, _, h => by have := (h y).2 (List.mem_cons_self ..); simp at this
 | x :: a, [], _, _, h => by have := (h x).1 (List.mem_cons_self ..); simp at this
 | x :: a, y :: b, ha, hb, h => by
  obtain ⟨ha1, ha2⟩ := List.pairwise_cons.1 ha
  obtain ⟨hb1, hb2⟩ := List.pairwise_cons.1 hb
  have hxy : x = y := by
   rcases List.mem_cons.1 ((h x).1 (List.mem_cons_self ..)) with h1 | h1
   ·exact h1
   ·rcases List.mem_cons.1 ((h y).2 (List.mem_cons_self ..)) with h2 | h2
    ·exact h2.symm
    ·have := hb1 x h1
     have := ha1 y h2
     omega
  subst hxy
  congr 1
  refine asc_eq a b ha2 hb2 fun z => ⟨fun hz => ?_, fun hz => ?_⟩
  ·rcases List.mem_cons.1 ((h z).1 (List.mem_cons_of_mem _ hz)) with h1 | h1
   ·have := ha1 z hz; omega
   ·exact h1
  ·rcases List.mem_cons.1 ((h z).2 (List.mem_cons_of_mem _ hz)) with h1 | h1
   ·have := hb1 z hz; omega
   ·exact h1
def sortI (xs : List Int) : List Int := xs.mergeSort fun x y => decide (x ≤ y)
theorem sortI_perm (xs : List Int) : (sortI xs).Perm xs := List.mergeSort_perm ..
theorem sortI_le (xs : List Int) : (sortI xs).Pairwise (· ≤ ·) := by
 have h := List.pairwise_mergeSort (le := fun x y : Int => decide (x ≤ y)) (fun a b c h1 h2 => by simp at h1 h2 ⊢; omega) (fun a b => by simp; omega) xs
 exact h.imp fun h => by simpa using h
theorem sortI_lt {xs : List Int} (h : xs.Nodup) : (sortI xs).Pairwise (· < ·) := by
 have h1 : (sortI xs).Nodup := (sortI_perm xs).nodup_iff.2 h
 exact (List.pairwise_and_iff.2 ⟨sortI_le xs, h1⟩).imp fun ⟨a, b⟩ => by omega
theorem sortI_length (xs : List Int) : (sortI xs).length = xs.length := (sortI_perm xs).length_eq
end Go.Proofs.Ytdkahdehodopoaa

set_option maxRecDepth 100000
namespace Go.Proofs.Ytdkahdehodopoaa
open Go.RowKit
theorem slc_Sort_ent : Enters Try.prog 71 := enters_of Try.func71 (by kernel_rfl) (by kernel_rfl)
theorem slc_Sort (A : Option Addr) (n c : Nat) (xs : List Int) (hn : n = xs.length) (h9 : xs.length ≤ 1000000000) :
  Mut Try.prog 71 #[.slice A n c] [ow A 3 c (ints xs)] [] (one (fun v ch => v = .tuple #[] ∧ ch = ow A 3 c (ints (sortI xs)))) := ⟨slc_Sort_ent, fun w hm => by
 subst hn
 have h0 : w.ownsRow 0 3 1 (.slice A (ints xs).length c) (ints xs).length (ints xs) := hm.sat _ (List.mem_cons_self ..)
 have hnd := h0
 rcases h0 with ⟨h1, ⟨h2, h3⟩ | ⟨g, cap, cur, hv, hb, hh, hc, hmx, hs, ht⟩⟩
 ·simp only [Value.slice.injEq] at h2
  obtain ⟨rfl, _, rfl⟩ := h2
  have hx : xs = [] := by simpa using h3
  subst hx
  have hsx : sortI [] = [] := List.eq_nil_of_length_eq_zero (by rw [sortI_length]; rfl)
  refine (Try.slices_Sort_int_none none 0 w).mono fun e w' ⟨h4, h5⟩ => ?_
  subst h4; subst h5
  exact ⟨_, _, rfl, ⟨_, rfl, rfl, rfl⟩, by rw [hsx]; simpa using hm, ⟨trivial, trivial⟩⟩
 ·simp only [Value.slice.injEq] at hv
  obtain ⟨rfl, _, rfl⟩ := hv
  have hlen : (ints xs).length = xs.length := by simp
  rw [hlen, Nat.mul_one] at ht
  rw [hlen] at hc
  have hH := holds_of_blockI (ss := xs) hh (by simpa [ints] using ht)
  have hg : g < w.heap.size := (Array.getElem?_eq_some_iff.1 hh).1
  refine (Try.slices_Sort_int g 0 c xs w hH hg (by omega)).mono fun e w' ⟨h4, n, os, h5⟩ => ?_
  subst h4
  have hgr : w.grownBy w' (some g) := by rw [h5]; exact Go.grownBy_sortedI _
  have hown : w'.ownsRow 0 3 1 (.slice (some ⟨g, 0, none⟩) (ints (sortI xs)).length c) (ints (sortI xs)).length (ints (sortI xs)) := by
   have h6 := Go.ownsRow_sortedI (w := w) (base := 0) (g := g) (cap := c) (n := n) (e := 3) (os := os) (cur := cur) (ss := xs) (ts := sortI xs) (sortI_length xs) (Nat.zero_le _) hh hc hmx hs
   have hl2 : (ints (sortI xs)).length = xs.length := by simp [sortI_length]
   rw [h5, hl2]
   exact h6
  refine ⟨_, _, rfl, ⟨_, rfl, rfl, rfl⟩, ?_, ⟨trivial, trivial⟩⟩
  refine (hm.change (c := ow (some ⟨g, 0, none⟩) 3 c (ints xs)) (F := []) (d := ow (some ⟨g, 0, none⟩) 3 c (ints (sortI xs))) trivial ⟨hgr.os, hgr.tape, hgr.output, hgr.size, fun k hk hf => hgr.block k hk (fun e => hf ⟨⟨g, 0, none⟩, rfl, by simpa using e.symm⟩)⟩ hown (fun b hb => .inl hb) : Mem _ w w' _)⟩
end Go.Proofs.Ytdkahdehodopoaa

set_option maxRecDepth 100000
namespace Go.Proofs.Ytdkahdehodopoaa
open Go.RowKit
theorem take_eq_next {α : Type} (d : α) (a b : List α) {k : Nat} (hl : a.length = b.length) (hk : k < a.length) (h : a.take k = b.take k) (he : a.getD k d = b.getD k d) : a.take (k + 1) = b.take (k + 1) := by
 rw [List.take_add_one, List.take_add_one, h, List.getElem?_eq_getElem hk, List.getElem?_eq_getElem (show k < b.length by omega)]
 rw [List.getD_eq_getElem?_getD, List.getElem?_eq_getElem hk, List.getD_eq_getElem?_getD, List.getElem?_eq_getElem (show k < b.length by omega)] at he
 simp only [Option.getD_some] at he
 rw [he]
end Go.Proofs.Ytdkahdehodopoaa

namespace Go.Proofs.Ytdkahdehodopoaa
namespace Rg
section
variable {R : Type} [Rg R]
def nc : Nat → R
 | 0 => 0
 | 1 => 1
 | n + 2 => nc (n + 1) + 1
theorem nc_succ : ∀ n : Nat, (nc (n + 1) : R) = nc n + 1
 | 0 => (Rg.zero_add (1 : R)).symm
 | _ + 1 => rfl
def ic : Int → R
 | .ofNat n => nc n
 | .negSucc n => -(nc (n + 1))
@[reducible] def grindOf (n : Nat) : OfNat R n := match n with
 | 0 => Zero.toOfNat0
 | 1 => One.toOfNat1
 | n + 2 => ⟨nc (n + 2)⟩
theorem of_nc : ∀ n : Nat, (@OfNat.ofNat R n (grindOf n)) = nc n
 | 0 => rfl
 | 1 => rfl
 | _ + 2 => rfl
instance (priority := low) grindSemi : Lean.Grind.Semiring R where
 natCast := ⟨nc⟩
 ofNat := grindOf
 nsmul := ⟨fun n a => nc n * a⟩
 npow := ⟨fun a n => Rg.pow a n⟩
 add_zero := Rg.add_zero
 add_comm := Rg.add_comm
 add_assoc := Rg.add_assoc
 mul_assoc := Rg.mul_assoc
 mul_one := Rg.mul_one
 one_mul := Rg.one_mul
 left_distrib := Rg.mul_add
 right_distrib := Rg.add_mul
 zero_mul := Rg.zero_mul
 mul_zero := Rg.mul_zero
 pow_zero := fun _ => rfl
 pow_succ := fun _ _ => rfl
 ofNat_succ := fun n => by rw [of_nc, of_nc]; exact nc_succ n
 ofNat_eq_natCast := fun n => of_nc n
 nsmul_eq_natCast_mul := fun _ _ => rfl
theorem ic_neg : ∀ i : Int, (ic (-i) : R) = -ic i
 | .ofNat 0 => (Rg.neg_zero (R := R)).symm
 | .ofNat (_ + 1) => rfl
 | .negSucc n => (Rg.neg_neg (nc (n + 1) : R)).symm
instance (priority := low) grindRing : Lean.Grind.CommRing R where
 intCast := ⟨ic⟩
 zsmul := ⟨fun i a => ic i * a⟩
 neg_add_cancel := Rg.neg_add
 sub_eq_add_neg := fun _ _ => rfl
 neg_zsmul := fun i a => by show ic (-i) * a = -(ic i * a); rw [ic_neg, Rg.neg_mul]
 zsmul_natCast_eq_nsmul := fun _ _ => rfl
 intCast_ofNat := fun n => (of_nc n).symm
 intCast_neg := ic_neg
 mul_comm := Rg.mul_comm
end
end Rg
end Go.Proofs.Ytdkahdehodopoaa

namespace Go.Proofs.Ytdkahdehodopoaa
section
variable {p m : Int} {mod : List Int} [hF : IsF p m mod]
theorem cf_set (l : List Int) {k : Nat} (v : Int) (hk : k < l.length) (j : Nat) : (el ((l.set k v).getD j 0) : El p m mod) = if j = k then el v else el (l.getD j 0) := by
 rw [getD_set]
 by_cases h : k = j
 ·subst h; rw [if_pos ⟨rfl, hk⟩, if_pos rfl]
 ·rw [if_neg (by omega), if_neg (by omega)]
theorem pol_set (l : List Int) {k : Nat} (v : Int) (hk : k < l.length) : (pol (l.set k v) : Po (El p m mod)) = pol l + Po.mn (el v - el (l.getD k 0)) k := Po.ext fun j => by
 rw [Po.cf_add, cf_pol, cf_pol, Po.cf_mn, cf_set l v hk]
 by_cases h : j = k
 ·subst h; rw [if_pos rfl, if_pos rfl]; grind
 ·rw [if_neg h, if_neg h]; grind
theorem pol_set_add (l : List Int) {k : Nat} {v : Int} {d : El p m mod} (hk : k < l.length) (h : (el v : El p m mod) = el (l.getD k 0) + d) : (pol (l.set k v) : Po (El p m mod)) = pol l + Po.mn d k := by
 rw [pol_set l v hk, h]
 congr 2
 grind
theorem getD_take (l : List Int) (k j : Nat) : (l.take k).getD j 0 = if j < k then l.getD j 0 else 0 := by
 rw [List.getD_eq_getElem?_getD, List.getElem?_take]
 split
 ·rw [List.getD_eq_getElem?_getD]
 ·rfl
theorem pol_take_zero (l : List Int) : (pol (l.take 0) : Po (El p m mod)) = 0 := by rw [List.take_zero]; exact pol_nil
theorem pol_take_succ (l : List Int) (k : Nat) : (pol (l.take (k + 1)) : Po (El p m mod)) = pol (l.take k) + Po.mn (el (l.getD k 0)) k := Po.ext fun j => by
 rw [Po.cf_add, cf_pol, cf_pol, Po.cf_mn, getD_take, getD_take]
 by_cases h : j = k
 ·subst h
  rw [if_pos (by omega), if_neg (by omega), if_pos rfl, el_zero]
  grind
 ·by_cases h2 : j < k
  ·rw [if_pos (by omega), if_pos h2, if_neg h]; grind
  ·rw [if_neg (by omega), if_neg h2, if_neg h]; grind
theorem pol_rep (n : Nat) : (pol (List.replicate n 0) : Po (El p m mod)) = 0 := Po.ext fun j => by
 rw [cf_pol, show (List.replicate n (0 : Int)).getD j 0 = 0 by rw [List.getD_eq_getElem?_getD, List.getElem?_replicate]; split <;> rfl, el_zero]
 rfl
theorem il_map {f : Po (El p m mod)} {c : El p m mod} (hc : c ≠ 0) : (il f).map (fun y => (c * el y : El p m mod).1) = il (Po.C c * f) := ext_getD (by rw [List.length_map, il_length, il_length, Po.len_C_mul hc]) fun j => by
 rw [il_getD, Po.cf_C_mul, List.getD_eq_getElem?_getD, List.getElem?_map]
 by_cases hj : j < (il f).length
 ·rw [List.getElem?_eq_getElem hj]
  have h1 := il_getD f j
  rw [List.getD_eq_getElem?_getD, List.getElem?_eq_getElem hj, Option.getD_some] at h1
  rw [Option.map_some, Option.getD_some, h1, el_of]
 ·rw [List.getElem?_eq_none (by omega), Option.map_none, Option.getD_none]
  rw [il_length] at hj
  rw [Po.cf_ge (by omega), Rg.mul_zero]
  rfl
end
end Go.Proofs.Ytdkahdehodopoaa

set_option maxRecDepth 100000
namespace Go.Proofs.Ytdkahdehodopoaa
open Go.RowKit
theorem negI_in {p m : Int} (hp : 2 ≤ p) (x : Int) : inI (pw p m) (negI p m x) = negI p m x := inI_in (negI_bd hp x).1 (negI_bd hp x).2
theorem pow_pos1 {p : Int} (hp : 2 ≤ p) (k : Nat) : 1 ≤ p ^ k := by
 have : 0 < p ^ k := Int.pow_pos (by omega)
 omega
theorem wp_le {w p z q : Int} (hw : 1 ≤ w) (hp : 1 ≤ p) (hz : 1 ≤ z) (h : w * p * z = q) : 1 ≤ w * p ∧ w * p ≤ q := by
 have h1 : 0 < w * p := Int.mul_pos (by omega) (by omega)
 have h2 : w * p * 1 ≤ w * p * z := Int.mul_le_mul_of_nonneg_left hz (by omega)
 omega
theorem le_wp {w z q : Int} (hw : 1 ≤ w) (hz : 1 ≤ z) (h : w * z = q) : z ≤ q := by
 have h1 : 1 * z ≤ w * z := Int.mul_le_mul_of_nonneg_right hw (by omega)
 omega
theorem ltEq {a b c : Int} (h : a < b) (e : b = c) : a < c := by omega
theorem digit_w {d p w q : Int} (h0 : 0 ≤ d) (h1 : d < p) (hw : 1 ≤ w) (h : w * p ≤ q) : 0 ≤ d * w ∧ d * w ≤ q := by
 have h2 : d * w ≤ p * w := Int.mul_le_mul_of_nonneg_right (by omega) (by omega)
 have h3 : 0 ≤ d * w := Int.mul_nonneg h0 (by omega)
 rw [Int.mul_comm p w] at h2
 omega
theorem gf_Add_ent : Enters Try.prog 92 := enters_of Try.func92 (by kernel_rfl) (by kernel_rfl)
theorem gf_Add (g : GfM) (p m : Int) (mod : List Int) (hg : GOk g p m mod) (x y : Int) :
  Pure Try.prog 92 #[.pointer (some g.p), .int .i64 x, .int .i64 y] [gfR g] (isV (.int .i64 (addI p m (inI g.q x) (inI g.q y)))) := by
 obtain rfl := hg.eP
 have hq := hg.q2
 have hel := hg.elen
 have hll := hg.llen'
 have heq := hg.eq
 have hp2 := hg.shp.1.p2
 have hp9 := hg.shp.1.p9
 have hxb := inI_bd (q := g.q) (by omega) x
 have hyb := inI_bd (q := g.q) (by omega) y
 have htb := addI_bd (m := m) hp2 (inI g.q x) (inI g.q y)
 have hrec := addI_rec g.P m (inI g.q x) (inI g.q y)
 refine pure_of (args := [.pointer (some g.p), .int .i64 x, .int .i64 y]) 77 Try.func92 rfl rfl rfl gf_Add_ent ⟨id, trivial⟩ (fun w0 => ?_)
 refine tS ?_
 refine tR fun _ _ _ => ?_
 refine pV ?_
 refine tS ?_
 refine tR fun _ _ _ => ?_
 iterate 2 refine pV ?_
 refine eV (eCallV rfl rfl rfl (gf_in _ _) ⟨rfl, rfl, trivial⟩ ?_)
 iterate 2 refine pV ?_
 refine eV (eCallV rfl rfl rfl (gf_in _ _) ⟨rfl, rfl, trivial⟩ ?_)
 iterate 2 refine pV ?_
 refine tS ?_
 refine tS ?_
 refine tR fun _ _ _ => ?_
 refine pV ?_
 refine sV (rNil rfl rfl) ?_
 refine sV (rFld rfl rfl) ?_
 refine sV (rFldN rfl rfl) ?_
 refine sV (rLdF rfl rfl rfl) ?_
 refine pV ?_
 refine tC rfl (fun h2 => ?_) (fun h2 => ?_)
 ·try simp only [zbA] at h2
  refine tS ?_
  have h2x := addI_two (m := m) (x := inI g.q x) (y := inI g.q y)
  refine tR fun _ _ _ => ?_
  iterate 2 refine pV ?_
  refine sV (rXor rfl rfl rfl (by omega) (by omega)) ?_
  refine pV ?_
  exact tr_ret ⟨trivial, _, _, rfl, ⟨by rw [← h2x (by rw [← h2, ← heq]; exact hxb) (by rw [← h2, ← heq]; exact hyb), h2], rfl⟩, CSub.nil _, trivial⟩
 ·try simp only [zbA] at h2
  refine tK ?_
  refine tS ?_
  refine tR fun _ _ _ => ?_
  iterate 2 refine pV ?_
  refine tS ?_
  refine tB ?_
  refine tr_loop5 (fun (k : Nat) (a : Int) (b : Int) (s : Int) (w : Int) => [(0, .pointer (some g.p)), (1, .int .i64 a), (2, .int .i64 b), (7, .int .i64 s), (8, .int .i64 w)]) (fun (k : Nat) (a : Int) (b : Int) (s : Int) (w : Int) => [gfR g]) (fun (k : Nat) (a : Int) (b : Int) (s : Int) (w : Int) => (0 ≤ a ∧ a < g.P ^ k) ∧ (0 ≤ b ∧ b < g.P ^ k) ∧ 0 ≤ s ∧ 1 ≤ w ∧ w * g.P ^ k = g.q ∧ s + w * addD g.P k a b = addI g.P m (inI g.q x) (inI g.q y)) (fun (k : Nat) (a : Int) (b : Int) (s : Int) (w : Int) => k) (m.toNat) (inI g.q x) (inI g.q y) (0) (1) ⟨rfl, rfl, rfl, rfl, rfl, trivial⟩ (by first | exact cs _ _ | exact CSub.refl _) (⟨⟨hxb.1, ltEq hxb.2 heq⟩, ⟨hyb.1, ltEq hyb.2 heq⟩, by omega, by omega, by rw [Int.one_mul, heq]; rfl, by rw [Int.one_mul, Int.zero_add, hrec]⟩) (fun k a b s w hI => ?_)
  obtain ⟨⟨ha0, ha1⟩, ⟨hb0, hb1⟩, hs0, hw1, hw, hs⟩ := hI
  refine tS ?_
  refine tS ?_
  refine tR fun _ _ _ => ?_
  iterate 3 refine pV ?_
  refine stg rfl rfl rfl rfl rfl (fun hb => by (have hq := hb; try simp only [zbA] at hq); exact rMove rfl rfl) ?_
  refine stg rfl rfl rfl rfl rfl (fun hb => by (have hq := hb; try simp only [zbA] at hq); exact rGtr rfl (evg rfl hb) rfl) ?_
  refine sV (rOrB rfl rfl rfl rfl) ?_
  refine tC rfl (fun h5 => ?_) (fun h5 => ?_)
  ·try simp only [zbA] at h5
   refine tK ?_
   refine tB ?_
   refine tS ?_
   have hk0 : k ≠ 0 := fun e => by
    subst e
    simp only [Int.pow_zero] at ha1 hb1
    omega
   obtain ⟨j, rfl⟩ : ∃ j, k = j + 1 := ⟨k - 1, by omega⟩
   have hpj := pow_pos1 hp2 j
   have hwq : w * g.P * g.P ^ j = g.q := by rw [← hw, Int.pow_succ, Int.mul_assoc, Int.mul_comm g.P]
   have hwp := wp_le hw1 (by omega) hpj hwq
   have hpq := le_wp hw1 (pow_pos1 hp2 (j + 1)) hw
   have e0 := Int.emod_nonneg a (show g.P ≠ 0 by omega)
   have e1 := Int.emod_lt_of_pos a (show 0 < g.P by omega)
   have e2 := Int.emod_nonneg b (show g.P ≠ 0 by omega)
   have e3 := Int.emod_lt_of_pos b (show 0 < g.P by omega)
   have e4 := Int.emod_nonneg (a % g.P + b % g.P) (show g.P ≠ 0 by omega)
   have e5 := Int.emod_lt_of_pos (a % g.P + b % g.P) (show 0 < g.P by omega)
   have hdw := digit_w e4 e5 hw1 hwp.2
   have had := addD_bd hp2 (j + 1) a b
   have hwa := Int.mul_nonneg (show 0 ≤ w by omega) had.1
   refine tr_draw [0, 1, 2, 3, 4, 5, 6, 7, 8, 9, 10, 11, 12, 13, 14, 15, 16, 17, 18, 19, 20, 21, 22, 23, 24, 25] [] mixed (by kernel_rfl) fun _ _ _ => ?_
   iterate 3 refine pV ?_
   refine sV (rNil rfl rfl) ?_
   refine sV (rFld rfl rfl) ?_
   refine sV (rFldN rfl rfl) ?_
   refine sV (rLdF rfl rfl rfl) ?_
   refine sV (rRem rfl rfl rfl (by omega) (by omega)) ?_
   iterate 2 refine pV ?_
   refine sV (rNil rfl rfl) ?_
   refine sV (rFld rfl rfl) ?_
   refine sV (rFldN rfl rfl) ?_
   refine sV (rLdF rfl rfl rfl) ?_
   refine sV (rRem rfl rfl rfl (by omega) (by omega)) ?_
   refine sV (rAdd rfl rfl rfl (by omega) (by omega)) ?_
   refine pV ?_
   refine sV (rNil rfl rfl) ?_
   refine sV (rFld rfl rfl) ?_
   refine sV (rFldN rfl rfl) ?_
   refine sV (rLdF rfl rfl rfl) ?_
   refine sV (rRem rfl rfl rfl (by omega) (by omega)) ?_
   refine pV ?_
   refine sV (rMul rfl rfl rfl (by omega) (by omega)) ?_
   refine sV (rAdd rfl rfl rfl (by omega) (by omega)) ?_
   refine pV ?_
   refine tS ?_
   refine tR fun _ _ _ => ?_
   iterate 2 refine pV ?_
   refine sV (rNil rfl rfl) ?_
   refine sV (rFld rfl rfl) ?_
   refine sV (rFldN rfl rfl) ?_
   refine sV (rLdF rfl rfl rfl) ?_
   refine sV (rMul rfl rfl rfl (by omega) (by omega)) ?_
   refine pV ?_
   refine tS ?_
   refine tR fun _ _ _ => ?_
   iterate 2 refine pV ?_
   refine sV (rNil rfl rfl) ?_
   refine sV (rFld rfl rfl) ?_
   refine sV (rFldN rfl rfl) ?_
   refine sV (rLdF rfl rfl rfl) ?_
   refine sV (rQuo rfl rfl rfl (by omega) (by omega)) ?_
   refine pV ?_
   refine tR fun _ _ _ => ?_
   iterate 2 refine pV ?_
   refine sV (rNil rfl rfl) ?_
   refine sV (rFld rfl rfl) ?_
   refine sV (rFldN rfl rfl) ?_
   refine sV (rLdF rfl rfl rfl) ?_
   refine sV (rQuo rfl rfl rfl (by omega) (by omega)) ?_
   refine pV ?_
   refine ⟨j, a / g.P, b / g.P, s + (a % g.P + b % g.P) % g.P * w, w * g.P, ⟨rfl, rfl, rfl, rfl, rfl, trivial⟩, by first | exact cs _ _ | exact CSub.refl _, ?_⟩
   refine ⟨⟨⟨Int.ediv_nonneg ha0 (by omega), ediv_lt_pow hp2 ha1⟩, ⟨Int.ediv_nonneg hb0 (by omega), ediv_lt_pow hp2 hb1⟩, by omega, by omega, hwq, ?_⟩, by omega⟩
   rw [← hs, addD]
   grind
  ·try simp only [zbA] at h5
   skip
   refine tE ?_
   refine tS ?_
   refine tR fun _ _ _ => ?_
   iterate 2 refine pV ?_
   have ha00 : a = 0 := by omega
   have hb00 : b = 0 := by omega
   subst ha00 hb00
   rw [addD_zero, Int.mul_zero, Int.add_zero] at hs
   exact tr_ret ⟨trivial, _, _, rfl, ⟨by rw [hs], rfl⟩, CSub.nil _, trivial⟩
theorem gf_Neg_ent : Enters Try.prog 70 := enters_of Try.func70 (by kernel_rfl) (by kernel_rfl)
theorem gf_Neg (g : GfM) (p m : Int) (mod : List Int) (hg : GOk g p m mod) (x : Int) :
  Pure Try.prog 70 #[.pointer (some g.p), .int .i64 x] [gfR g] (isV (.int .i64 (negI p m (inI g.q x)))) := by
 obtain rfl := hg.eP
 have hq := hg.q2
 have hel := hg.elen
 have hll := hg.llen'
 have heq := hg.eq
 have hp2 := hg.shp.1.p2
 have hp9 := hg.shp.1.p9
 have hxb := inI_bd (q := g.q) (by omega) x
 have htb := negI_bd (m := m) hp2 (inI g.q x)
 have hrec := negI_rec hp2 m (inI g.q x)
 refine pure_of (args := [.pointer (some g.p), .int .i64 x]) 50 Try.func70 rfl rfl rfl gf_Neg_ent ⟨id, trivial⟩ (fun w0 => ?_)
 refine tS ?_
 refine tR fun _ _ _ => ?_
 refine pV ?_
 refine tS ?_
 refine tR fun _ _ _ => ?_
 iterate 2 refine pV ?_
 refine eV (eCallV rfl rfl rfl (gf_in _ _) ⟨rfl, rfl, trivial⟩ ?_)
 refine pV ?_
 refine tS ?_
 refine tR fun _ _ _ => ?_
 iterate 2 refine pV ?_
 refine tS ?_
 refine tB ?_
 refine tr_loop4 (fun (k : Nat) (a : Int) (s : Int) (w : Int) => [(0, .pointer (some g.p)), (1, .int .i64 a), (5, .int .i64 s), (6, .int .i64 w)]) (fun (k : Nat) (a : Int) (s : Int) (w : Int) => [gfR g]) (fun (k : Nat) (a : Int) (s : Int) (w : Int) => (0 ≤ a ∧ a < g.P ^ k) ∧ 0 ≤ s ∧ 1 ≤ w ∧ w * g.P ^ k = g.q ∧ s + w * negD g.P k a = negI g.P m (inI g.q x)) (fun (k : Nat) (a : Int) (s : Int) (w : Int) => k) (m.toNat) (inI g.q x) (0) (1) ⟨rfl, rfl, rfl, rfl, trivial⟩ (by first | exact cs _ _ | exact CSub.refl _) (⟨⟨hxb.1, ltEq hxb.2 heq⟩, by omega, by omega, by rw [Int.one_mul, heq]; rfl, by rw [Int.one_mul, Int.zero_add, hrec]⟩) (fun k a s w hI => ?_)
 obtain ⟨⟨ha0, ha1⟩, hs0, hw1, hw, hs⟩ := hI
 refine tS ?_
 refine tS ?_
 refine tR fun _ _ _ => ?_
 iterate 2 refine pV ?_
 refine tC rfl (fun h3 => ?_) (fun h3 => ?_)
 ·try simp only [zbA] at h3
  refine tK ?_
  refine tB ?_
  refine tS ?_
  have hk0 : k ≠ 0 := fun e => by
   subst e
   simp only [Int.pow_zero] at ha1
   omega
  obtain ⟨j, rfl⟩ : ∃ j, k = j + 1 := ⟨k - 1, by omega⟩
  have hpj := pow_pos1 hp2 j
  have hwq : w * g.P * g.P ^ j = g.q := by rw [← hw, Int.pow_succ, Int.mul_assoc, Int.mul_comm g.P]
  have hwp := wp_le hw1 (by omega) hpj hwq
  have hpq := le_wp hw1 (pow_pos1 hp2 (j + 1)) hw
  have e0 := Int.emod_nonneg a (show g.P ≠ 0 by omega)
  have e1 := Int.emod_lt_of_pos a (show 0 < g.P by omega)
  have e4 := Int.emod_nonneg (g.P - a % g.P) (show g.P ≠ 0 by omega)
  have e5 := Int.emod_lt_of_pos (g.P - a % g.P) (show 0 < g.P by omega)
  have hdw := digit_w e4 e5 hw1 hwp.2
  have had := negD_bd hp2 (j + 1) a
  have hwa := Int.mul_nonneg (show 0 ≤ w by omega) had.1
  refine tr_draw [0, 1, 2, 3, 4, 5, 6, 7, 8, 9, 10, 11, 12, 13, 14, 15, 16, 17, 18, 19, 20, 21, 22, 23] [] mixed (by kernel_rfl) fun _ _ _ => ?_
  iterate 2 refine pV ?_
  refine sV (rNil rfl rfl) ?_
  refine sV (rFld rfl rfl) ?_
  refine sV (rFldN rfl rfl) ?_
  refine sV (rLdF rfl rfl rfl) ?_
  iterate 2 refine pV ?_
  refine sV (rNil rfl rfl) ?_
  refine sV (rFld rfl rfl) ?_
  refine sV (rFldN rfl rfl) ?_
  refine sV (rLdF rfl rfl rfl) ?_
  refine sV (rRem rfl rfl rfl (by omega) (by omega)) ?_
  refine sV (rSub rfl rfl rfl (by omega) (by omega)) ?_
  refine pV ?_
  refine sV (rNil rfl rfl) ?_
  refine sV (rFld rfl rfl) ?_
  refine sV (rFldN rfl rfl) ?_
  refine sV (rLdF rfl rfl rfl) ?_
  refine sV (rRem rfl rfl rfl (by omega) (by omega)) ?_
  refine pV ?_
  refine sV (rMul rfl rfl rfl (by omega) (by omega)) ?_
  refine sV (rAdd rfl rfl rfl (by omega) (by omega)) ?_
  refine pV ?_
  refine tS ?_
  refine tR fun _ _ _ => ?_
  iterate 2 refine pV ?_
  refine sV (rNil rfl rfl) ?_
  refine sV (rFld rfl rfl) ?_
  refine sV (rFldN rfl rfl) ?_
  refine sV (rLdF rfl rfl rfl) ?_
  refine sV (rMul rfl rfl rfl (by omega) (by omega)) ?_
  refine pV ?_
  refine tR fun _ _ _ => ?_
  iterate 2 refine pV ?_
  refine sV (rNil rfl rfl) ?_
  refine sV (rFld rfl rfl) ?_
  refine sV (rFldN rfl rfl) ?_
  refine sV (rLdF rfl rfl rfl) ?_
  refine sV (rQuo rfl rfl rfl (by omega) (by omega)) ?_
  refine pV ?_
  refine ⟨j, a / g.P, s + (g.P - a % g.P) % g.P * w, w * g.P, ⟨rfl, rfl, rfl, rfl, trivial⟩, by first | exact cs _ _ | exact CSub.refl _, ?_⟩
  refine ⟨⟨⟨Int.ediv_nonneg ha0 (by omega), ediv_lt_pow hp2 ha1⟩, by omega, by omega, hwq, ?_⟩, by omega⟩
  rw [← hs, negD]
  grind
 ·try simp only [zbA] at h3
  refine tE ?_
  refine tS ?_
  refine tR fun _ _ _ => ?_
  iterate 2 refine pV ?_
  have ha00 : a = 0 := by omega
  subst ha00
  rw [negD_zero, Int.mul_zero, Int.add_zero] at hs
  exact tr_ret ⟨trivial, _, _, rfl, ⟨by rw [hs], rfl⟩, CSub.nil _, trivial⟩
theorem gf_Sub_ent : Enters Try.prog 65 := enters_of Try.func65 (by kernel_rfl) (by kernel_rfl)
theorem gf_Sub (g : GfM) (p m : Int) (mod : List Int) (hg : GOk g p m mod) (x y : Int) :
  Pure Try.prog 65 #[.pointer (some g.p), .int .i64 x, .int .i64 y] [gfR g] (isV (.int .i64 (addI p m (inI g.q x) (negI p m (inI g.q y))))) := by
 refine pure_of (args := [.pointer (some g.p), .int .i64 x, .int .i64 y]) 13 Try.func65 rfl rfl rfl gf_Sub_ent ⟨id, trivial⟩ (fun w0 => ?_)
 refine tS ?_
 refine tR fun _ _ _ => ?_
 refine pV ?_
 refine tS ?_
 refine tR fun _ _ _ => ?_
 iterate 4 refine pV ?_
 refine eV (eCallV rfl rfl rfl (gf_Neg g p m mod hg _) ⟨rfl, rfl, trivial⟩ ?_)
 refine eV (eCallV rfl rfl rfl (gf_Add g p m mod hg _ _) ⟨rfl, rfl, rfl, trivial⟩ ?_)
 refine pV ?_
 exact tr_ret ⟨trivial, _, _, rfl, ⟨by rw [hg.eq, negI_in hg.shp.1.p2], rfl⟩, CSub.nil _, trivial⟩
theorem gf_Mul_ent : Enters Try.prog 64 := enters_of Try.func64 (by kernel_rfl) (by kernel_rfl)
theorem gf_Mul (g : GfM) (p m : Int) (mod : List Int) (hg : GOk g p m mod) (x y : Int) :
  Pure Try.prog 64 #[.pointer (some g.p), .int .i64 x, .int .i64 y] [gfR g] (isV (.int .i64 (mulI p m mod (inI g.q x) (inI g.q y)))) := by
 obtain rfl := hg.eP
 have hq := hg.q2
 have hel := hg.elen
 have hll := hg.llen'
 have heq := hg.eq
 have hp2 := hg.shp.1.p2
 have hp9 := hg.shp.1.p9
 have hxb := inI_bd (q := g.q) (by omega) x
 have hyb := inI_bd (q := g.q) (by omega) y
 refine pure_of (args := [.pointer (some g.p), .int .i64 x, .int .i64 y]) 46 Try.func64 rfl rfl rfl gf_Mul_ent ⟨id, trivial⟩ (fun w0 => ?_)
 refine tS ?_
 refine tR fun _ _ _ => ?_
 refine pV ?_
 refine tS ?_
 refine tR fun _ _ _ => ?_
 iterate 2 refine pV ?_
 refine eV (eCallV rfl rfl rfl (gf_in _ _) ⟨rfl, rfl, trivial⟩ ?_)
 iterate 2 refine pV ?_
 refine eV (eCallV rfl rfl rfl (gf_in _ _) ⟨rfl, rfl, trivial⟩ ?_)
 iterate 2 refine pV ?_
 refine tS ?_
 refine tS ?_
 refine tR fun _ _ _ => ?_
 iterate 3 refine pV ?_
 refine stg rfl rfl rfl rfl rfl (fun hb => by (have hq := hb; try simp only [zbA] at hq); exact rMove rfl rfl) ?_
 refine stg rfl rfl rfl rfl rfl (fun hb => by (have hq := hb; try simp only [zbA] at hq); exact rEql rfl (evg rfl hb) rfl) ?_
 refine sV (rOrB rfl rfl rfl rfl) ?_
 refine tC rfl (fun h2 => ?_) (fun h2 => ?_)
 ·try simp only [zbA] at h2
  refine tS ?_
  refine tR fun _ _ _ => ?_
  refine pV ?_
  exact tr_ret ⟨trivial, _, _, rfl, ⟨by
   rcases h2 with h | h
   ·rw [h, mulI_zero hg.shp.1]
   ·rw [h, mulI_comm hg.shp.1, mulI_zero hg.shp.1], rfl⟩, CSub.nil _, trivial⟩
 ·try simp only [zbA] at h2
  refine tK ?_
  refine tS ?_
  have hlx := hg.log_spec (y := inI g.q x) (by omega) (by omega)
  have hly := hg.log_spec (y := inI g.q y) (by omega) (by omega)
  have e0 := Int.emod_nonneg (g.log.getD (inI g.q x).toNat 0 + g.log.getD (inI g.q y).toNat 0) (show g.q - 1 ≠ 0 by omega)
  have e1 := Int.emod_lt_of_pos (g.log.getD (inI g.q x).toNat 0 + g.log.getD (inI g.q y).toNat 0) (show 0 < g.q - 1 by omega)
  refine tr_draw [0, 1, 2, 3, 4, 5, 6, 7, 8, 9, 10, 11, 12, 13, 14, 15, 16, 17, 18, 19, 20, 21, 22, 23, 24, 25, 26, 27] [] mixed (by kernel_rfl) fun _ _ _ => ?_
  refine pV ?_
  refine sV (rNil rfl rfl) ?_
  refine sV (rFld rfl rfl) ?_
  refine sV (rLdF rfl rfl rfl) ?_
  refine pV ?_
  refine sV (rNil rfl rfl) ?_
  refine sV (rFld rfl rfl) ?_
  refine sV (rLdF rfl rfl rfl) ?_
  refine pV ?_
  refine sV (rIdxI rfl rfl rfl (by omega) (by omega) (by omega)) ?_
  refine sV (rLdI rfl rfl (by omega)) ?_
  refine pV ?_
  refine sV (rNil rfl rfl) ?_
  refine sV (rFld rfl rfl) ?_
  refine sV (rLdF rfl rfl rfl) ?_
  refine pV ?_
  refine sV (rIdxI rfl rfl rfl (by omega) (by omega) (by omega)) ?_
  refine sV (rLdI rfl rfl (by omega)) ?_
  refine sV (rAdd rfl rfl rfl (by omega) (by omega)) ?_
  refine pV ?_
  refine sV (rNil rfl rfl) ?_
  refine sV (rFld rfl rfl) ?_
  refine sV (rLdF rfl rfl rfl) ?_
  refine sV (rSub rfl rfl rfl (by omega) (by omega)) ?_
  refine sV (rRem rfl rfl rfl (by omega) (by omega)) ?_
  refine sV (rIdxI rfl rfl rfl (by omega) (by omega) (by omega)) ?_
  refine sV (rLdI rfl rfl (by omega)) ?_
  refine pV ?_
  exact tr_ret ⟨trivial, _, _, rfl, ⟨by rw [hg.mul ⟨by omega, by omega⟩ ⟨by omega, by omega⟩], rfl⟩, CSub.nil _, trivial⟩
theorem gf_Inv_ent : Enters Try.prog 63 := enters_of Try.func63 (by kernel_rfl) (by kernel_rfl)
theorem gf_Inv (g : GfM) (p m : Int) (mod : List Int) (hg : GOk g p m mod) (x : Int) :
  Pure Try.prog 63 #[.pointer (some g.p), .int .i64 x] [gfR g] (isV (if inI g.q x = 0 then .tuple #[.int .i64 0, .int .i64 7] else .tuple #[.int .i64 (invI p m mod (inI g.q x)), .int .i64 0])) := by
 obtain rfl := hg.eP
 have hq := hg.q2
 have hel := hg.elen
 have hll := hg.llen'
 have heq := hg.eq
 have hp2 := hg.shp.1.p2
 have hp9 := hg.shp.1.p9
 have hxb := inI_bd (q := g.q) (by omega) x
 refine pure_of (args := [.pointer (some g.p), .int .i64 x]) 36 Try.func63 rfl rfl rfl gf_Inv_ent ⟨id, trivial⟩ (fun w0 => ?_)
 refine tS ?_
 refine tR fun _ _ _ => ?_
 iterate 2 refine pV ?_
 refine tS ?_
 refine tR fun _ _ _ => ?_
 iterate 2 refine pV ?_
 refine eV (eCallV rfl rfl rfl (gf_in _ _) ⟨rfl, rfl, trivial⟩ ?_)
 refine pV ?_
 refine tS ?_
 refine tS ?_
 refine tR fun _ _ _ => ?_
 iterate 2 refine pV ?_
 refine tC rfl (fun h2 => ?_) (fun h2 => ?_)
 ·try simp only [zbA] at h2
  refine tS ?_
  refine tR fun _ _ _ => ?_
  iterate 2 refine pV ?_
  exact tr_ret ⟨trivial, _, _, rfl, ⟨by rw [if_pos h2], rfl⟩, CSub.nil _, trivial⟩
 ·try simp only [zbA] at h2
  refine tK ?_
  refine tS ?_
  have hlx := hg.log_spec (y := inI g.q x) (by omega) (by omega)
  have e0 := Int.emod_nonneg (g.q - 1 - g.log.getD (inI g.q x).toNat 0) (show g.q - 1 ≠ 0 by omega)
  have e1 := Int.emod_lt_of_pos (g.q - 1 - g.log.getD (inI g.q x).toNat 0) (show 0 < g.q - 1 by omega)
  refine tr_draw [0, 1, 2, 3, 4, 5, 6, 7, 8, 9, 10, 11, 12, 13, 14, 15, 16, 17, 18, 19, 20, 21, 22, 23, 24, 25, 26] [] mixed (by kernel_rfl) fun _ _ _ => ?_
  refine pV ?_
  refine sV (rNil rfl rfl) ?_
  refine sV (rFld rfl rfl) ?_
  refine sV (rLdF rfl rfl rfl) ?_
  refine pV ?_
  refine sV (rNil rfl rfl) ?_
  refine sV (rFld rfl rfl) ?_
  refine sV (rLdF rfl rfl rfl) ?_
  refine sV (rSub rfl rfl rfl (by omega) (by omega)) ?_
  refine pV ?_
  refine sV (rNil rfl rfl) ?_
  refine sV (rFld rfl rfl) ?_
  refine sV (rLdF rfl rfl rfl) ?_
  refine pV ?_
  refine sV (rIdxI rfl rfl rfl (by omega) (by omega) (by omega)) ?_
  refine sV (rLdI rfl rfl (by omega)) ?_
  refine sV (rSub rfl rfl rfl (by omega) (by omega)) ?_
  refine pV ?_
  refine sV (rNil rfl rfl) ?_
  refine sV (rFld rfl rfl) ?_
  refine sV (rLdF rfl rfl rfl) ?_
  refine sV (rSub rfl rfl rfl (by omega) (by omega)) ?_
  refine sV (rRem rfl rfl rfl (by omega) (by omega)) ?_
  refine sV (rIdxI rfl rfl rfl (by omega) (by omega) (by omega)) ?_
  refine sV (rLdI rfl rfl (by omega)) ?_
  iterate 2 refine pV ?_
  exact tr_ret ⟨trivial, _, _, rfl, ⟨by rw [if_neg h2, hg.inv ⟨by omega, by omega⟩], rfl⟩, CSub.nil _, trivial⟩
theorem gf_Scale_ent : Enters Try.prog 94 := enters_of Try.func94 (by kernel_rfl) (by kernel_rfl)
theorem gf_Scale (g : GfM) (p m : Int) (mod : List Int) (hg : GOk g p m mod) (x : Int) (A : Option Addr) (n c : Nat) (l : List Int) (hn : n = l.length) (h9 : l.length ≤ 17592186044415) :
  Pure Try.prog 94 #[.pointer (some g.p), .int .i64 x, .slice A n c] [gfR g, ro A (ints l)] (one (fun v ch => ∃ B, v = .slice B l.length l.length ∧ ch = ow B 3 l.length (ints (l.map fun y => mulI p m mod (inI g.q x) (inI g.q y))))) := by
 refine pure_of (args := [.pointer (some g.p), .int .i64 x, .slice A n c]) 29 Try.func94 rfl rfl rfl gf_Scale_ent ⟨id, id, trivial⟩ (fun w0 => ?_)
 refine tS ?_
 refine tR fun _ _ _ => ?_
 refine pV ?_
 refine tS ?_
 refine tR fun _ _ _ => ?_
 refine pV ?_
 refine sV (rLen rfl rfl) ?_
 refine eV (eMakeI rfl rfl rfl rfl rfl (by omega) (by omega) (by omega) (fun A1 => ?_))
 refine pV ?_
 refine tS ?_
 refine tS ?_
 refine tR fun _ _ _ => ?_
 refine pV ?_
 refine sV (rLen rfl rfl) ?_
 refine pV ?_
 refine tB ?_
 refine tr_loop2 (fun (k : Int) (o : List Int) => [(0, .pointer (some g.p)), (1, .int .i64 x), (7, .slice A1 n n), (13, .slice A n c), (14, .int .i64 n), (15, .int .i64 k)]) (fun (k : Int) (o : List Int) => [ow A1 3 n (ints o), gfR g, ro A (ints l)]) (fun (k : Int) (o : List Int) => (0 ≤ k ∧ k ≤ n) ∧ o.length = n ∧ ∀ j : Nat, (j : Int) < k → o.getD j 0 = mulI p m mod (inI g.q x) (inI g.q (l.getD j 0))) (fun (k : Int) (o : List Int) => (n - k).toNat) (0) (List.replicate n 0) ⟨rfl, rfl, rfl, rfl, rfl, rfl, trivial⟩ (by first | exact cs _ _ | exact CSub.refl _) (⟨⟨by omega, by omega⟩, by simp, fun j hj => by omega⟩) (fun k o hI => ?_)
 obtain ⟨hk, hol, ho⟩ := hI
 refine tS ?_
 refine tR fun _ _ _ => ?_
 refine pV ?_
 refine tS ?_
 refine tC rfl (fun h3 => ?_) (fun h3 => ?_)
 ·try simp only [zbA] at h3
  refine tK ?_
  refine tS ?_
  refine tB ?_
  refine tS ?_
  refine tR fun _ _ _ => ?_
  refine pV ?_
  refine sV (rIdxI rfl rfl rfl (by omega) (by omega) (by omega)) ?_
  refine sV (rLdI rfl rfl (by omega)) ?_
  iterate 2 refine pV ?_
  refine tR fun _ _ _ => ?_
  iterate 5 refine pV ?_
  refine eV (eCallV rfl rfl rfl (gf_Mul g p m mod hg _ _) ⟨rfl, rfl, rfl, trivial⟩ ?_)
  refine sV (rIdxI rfl rfl rfl (by omega) (by omega) (by omega)) ?_
  refine eV (eStI rfl rfl rfl rfl (by omega) ?_)
  refine tR fun _ _ _ => ?_
  refine sV (rAdd rfl rfl rfl (by omega) (by omega)) ?_
  refine pV ?_
  refine ⟨k + 1, o.set k.toNat (mulI p m mod (inI g.q x) (inI g.q (l.getD k.toNat 0))), ⟨rfl, rfl, rfl, rfl, rfl, rfl, trivial⟩, by first | exact cs _ _ | exact CSub.refl _, ?_⟩
  refine ⟨⟨⟨by omega, by omega⟩, by simpa using hol, fun j hj => ?_⟩, by omega⟩
  rw [getD_set]
  by_cases he : k.toNat = j
  ·subst he; rw [if_pos ⟨rfl, by omega⟩]
  ·rw [if_neg (by omega)]; exact ho j (by omega)
 ·try simp only [zbA] at h3
  refine tE ?_
  refine tS ?_
  refine tR fun _ _ _ => ?_
  iterate 2 refine pV ?_
  have hm : o = l.map fun y => mulI p m mod (inI g.q x) (inI g.q y) := by
   refine List.ext_getElem (by simp; omega) fun j h1 h2 => ?_
   have := ho j (by omega)
   rw [List.getD_eq_getElem?_getD, List.getElem?_eq_getElem h1, List.getD_eq_getElem?_getD, List.getElem?_eq_getElem (show j < l.length by omega)] at this
   simpa using this
  rw [hm]
  subst hn
  exact tr_ret ⟨trivial, _, _, rfl, ⟨_, rfl, _, rfl, rfl⟩, cs _ _, trivial, trivial⟩
end Go.Proofs.Ytdkahdehodopoaa

set_option maxRecDepth 100000
namespace Go.Proofs.Ytdkahdehodopoaa
open Go.RowKit
theorem gf_AddE (g : GfM) {p m : Int} {mod : List Int} [hF : IsF p m mod] (hg : GOk g p m mod) (x y : Int) : Pure Try.prog 92 #[.pointer (some g.p), .int .i64 x, .int .i64 y] [gfR g] (isV (.int .i64 (el x + el y : El p m mod).1)) := by
 have h := gf_Add g p m mod hg x y
 rw [hg.eq] at h
 exact h
theorem gf_SubE (g : GfM) {p m : Int} {mod : List Int} [hF : IsF p m mod] (hg : GOk g p m mod) (x y : Int) : Pure Try.prog 65 #[.pointer (some g.p), .int .i64 x, .int .i64 y] [gfR g] (isV (.int .i64 (el x - el y : El p m mod).1)) := by
 have h := gf_Sub g p m mod hg x y
 rw [hg.eq] at h
 exact h
theorem gf_MulE (g : GfM) {p m : Int} {mod : List Int} [hF : IsF p m mod] (hg : GOk g p m mod) (x y : Int) : Pure Try.prog 64 #[.pointer (some g.p), .int .i64 x, .int .i64 y] [gfR g] (isV (.int .i64 (el x * el y : El p m mod).1)) := by
 have h := gf_Mul g p m mod hg x y
 rw [hg.eq] at h
 exact h
theorem gf_NegE (g : GfM) {p m : Int} {mod : List Int} [hF : IsF p m mod] (hg : GOk g p m mod) (x : Int) : Pure Try.prog 70 #[.pointer (some g.p), .int .i64 x] [gfR g] (isV (.int .i64 (-el x : El p m mod).1)) := by
 have h := gf_Neg g p m mod hg x
 rw [hg.eq] at h
 exact h
theorem gf_InvE (g : GfM) {p m : Int} {mod : List Int} [hF : IsF p m mod] (hg : GOk g p m mod) (x : Int) (hx : (el x : El p m mod) ≠ 0) : Pure Try.prog 63 #[.pointer (some g.p), .int .i64 x] [gfR g] (isV (.tuple #[.int .i64 (Fd.inv (el x : El p m mod)).1, .int .i64 0])) := by
 have h := gf_Inv g p m mod hg x
 have e : ¬ inI (pw p m) x = 0 := fun e => hx ((val_zero_iff (el x : El p m mod)).1 e)
 rw [hg.eq, if_neg e] at h
 exact h
theorem gf_ScaleE (g : GfM) {p m : Int} {mod : List Int} [hF : IsF p m mod] (hg : GOk g p m mod) (x : Int) (A : Option Addr) (n c : Nat) (l : List Int) (hn : n = l.length) (h9 : l.length ≤ 17592186044415) : Pure Try.prog 94 #[.pointer (some g.p), .int .i64 x, .slice A n c] [gfR g, ro A (ints l)] (one (fun v ch => ∃ B, v = .slice B l.length l.length ∧ ch = ow B 3 l.length (ints (l.map fun y => (el x * el y : El p m mod).1)))) := by
 have h := gf_Scale g p m mod hg x A n c l hn h9
 rw [hg.eq] at h
 exact h
theorem poly_CanonE (g : GfM) {p m : Int} {mod : List Int} [hF : IsF p m mod] (hg : GOk g p m mod) (A : Option Addr) (n c : Nat) (a : List Int) (hn : n = a.length) (ha9 : a.length ≤ 17592186044415) : Pure Try.prog 60 #[.pointer (some g.p), .slice A n c] [gfR g, ro A (ints a)] (one (fun v ch => ∃ B cap, v = .slice B (il (pol a : Po (El p m mod))).length cap ∧ (il (pol a : Po (El p m mod))).length ≤ cap ∧ ch = ow B 3 cap (ints (il (pol a : Po (El p m mod)))))) := by
 have h := poly_CanonS g A n c a hn ha9
 rw [hg.eq, ← il_pol (mod := mod)] at h
 exact h
theorem El.bd {p m : Int} {mod : List Int} (a : El p m mod) : 0 ≤ a.1 ∧ a.1 < pw p m := a.2
theorem shrink_trim {A : Option Addr} {e : TypeId} {cap : Nat} (l : List Int) (F : List Chunk) : CSub (ow A e cap (ints l) :: F) (ow A e cap (ints (trimL l)) :: F) := by
 have hsh := ow_shrink (e := e) (A := A) (cap := cap) (vs := ints (trimL l)) (ws := ints (l.drop (trimL l).length)) F
 rw [← ints_append, ← trimL_split l] at hsh
 exact hsh
theorem div_acc {R : Type} [Rg R] {a q b r t : R} (h : a = q * b + r) : a = (q + t) * b + (r - t * b) := by grind
theorem allIn_rep {q : Int} (hq : 0 < q) (n : Nat) : AllIn q (List.replicate n 0) := fun z hz => by have := List.eq_of_mem_replicate hz; omega
theorem rep_get (n j : Nat) : (List.replicate n (0 : Int)).getD j 0 = 0 := by rw [List.getD_eq_getElem?_getD, List.getElem?_replicate]; split <;> rfl
theorem il_le {p m : Int} {mod : List Int} [hF : IsF p m mod] (l : List Int) : (il (pol l : Po (El p m mod))).length ≤ l.length := by
 rw [il_length]
 exact Po.len_le (pol_sh l)
theorem poly_Monic_ent : Enters Try.prog 68 := enters_of Try.func68 (by kernel_rfl) (by kernel_rfl)
theorem poly_Monic (g : GfM) {p m : Int} {mod : List Int} [hF : IsF p m mod] (hg : GOk g p m mod) (A : Option Addr) (n c : Nat) (a : List Int) (hn : n = a.length) (ha9 : a.length ≤ 17592186044415) (h0 : (pol a : Po (El p m mod)) ≠ 0) :
  Pure Try.prog 68 #[.pointer (some g.p), .slice A n c] [gfR g, ro A (ints a)] (one (fun v ch => ∃ B cap, v = .tuple #[.slice B (il (Po.mon (pol a : Po (El p m mod)))).length cap, .int .i64 0] ∧ ch = ow B 3 cap (ints (il (Po.mon (pol a : Po (El p m mod))))))) := by
 have hz : 0 < (il (pol a : Po (El p m mod))).length := by rw [il_length]; exact Po.len_pos h0
 have hcl := il_le (p := p) (m := m) (mod := mod) a
 have hld : (el ((il (pol a : Po (El p m mod))).getD (((il (pol a : Po (El p m mod))).length : Int) - 1).toNat 0) : El p m mod) = Po.lead (pol a : Po (El p m mod)) := by rw [il_getD, el_of, Po.lead, il_length, show ((Po.len (pol a : Po (El p m mod)) : Int) - 1).toNat = Po.len (pol a : Po (El p m mod)) - 1 by omega]
 have hnz : (el ((il (pol a : Po (El p m mod))).getD (((il (pol a : Po (El p m mod))).length : Int) - 1).toNat 0) : El p m mod) ≠ 0 := by rw [hld]; exact Po.lead_nz h0
 have hmap := il_map (f := (pol a : Po (El p m mod))) (c := Fd.inv (Po.lead (pol a : Po (El p m mod)))) (Fd.inv_ne (Po.lead_nz h0))
 have hml : (il (Po.mon (pol a : Po (El p m mod)))).length = (il (pol a : Po (El p m mod))).length := by rw [il_length, il_length, Po.mon_len]
 refine pure_of (args := [.pointer (some g.p), .slice A n c]) 30 Try.func68 rfl rfl rfl poly_Monic_ent ⟨id, id, trivial⟩ (fun w0 => ?_)
 refine tS ?_
 refine tR fun _ _ _ => ?_
 iterate 2 refine pV ?_
 refine tS ?_
 refine tR fun _ _ _ => ?_
 iterate 2 refine pV ?_
 refine eV (eCall1 rfl rfl rfl (poly_CanonE g hg _ _ _ _ (by first | omega | rfl | simp) (by omega)) ⟨rfl, rfl, trivial⟩ ?_)
 rintro _ _ ⟨B1, c1, rfl, hcap1, rfl⟩
 refine pV ?_
 refine tS ?_
 refine tS ?_
 refine tR fun _ _ _ => ?_
 refine pV ?_
 refine sV (rLen rfl rfl) ?_
 refine pV ?_
 refine tC rfl (fun h2 => ?_) (fun h2 => ?_)
 ·try simp only [zbA] at h2
  omega --done
 ·try simp only [zbA] at h2
  refine tK ?_
  refine tS ?_
  refine tR fun _ _ _ => ?_
  iterate 3 refine pV ?_
  refine sV (rLen rfl rfl) ?_
  refine sV (rSub rfl rfl rfl (by omega) (by omega)) ?_
  refine sV (rIdxI rfl rfl rfl (by omega) (by omega) (by omega)) ?_
  refine sV (rLdI rfl rfl (by omega)) ?_
  refine eV (eCallV rfl rfl rfl (gf_InvE g hg _ hnz) ⟨rfl, rfl, trivial⟩ ?_)
  iterate 5 refine pV ?_
  refine tS ?_
  rw [hld]
  refine tR fun _ _ _ => ?_
  iterate 3 refine pV ?_
  refine eV (eCall1 rfl rfl rfl (gf_ScaleE g hg _ _ _ _ (il (pol a : Po (El p m mod))) rfl (by omega)) ⟨rfl, rfl, rfl, trivial⟩ ?_)
  rintro _ _ ⟨B5, rfl, rfl⟩
  iterate 2 refine pV ?_
  simp only [el_of]
  rw [hmap, show Po.C (Fd.inv (Po.lead (pol a : Po (El p m mod)))) * (pol a : Po (El p m mod)) = Po.mon (pol a : Po (El p m mod)) from rfl]
  exact tr_ret ⟨trivial, _, _, rfl, ⟨_, rfl, _, _, by rw [hml], rfl⟩, cs _ _, trivial, trivial⟩
theorem poly_DivMod_ent : Enters Try.prog 31 := enters_of Try.func31 (by kernel_rfl) (by kernel_rfl)
theorem poly_DivMod (g : GfM) {p m : Int} {mod : List Int} [hF : IsF p m mod] (hg : GOk g p m mod) (A : Option Addr) (n c : Nat) (a : List Int) (hn : n = a.length) (ha9 : a.length ≤ 17592186044415) (B : Option Addr) (k d : Nat) (b : List Int) (hk : k = b.length) (hb9 : b.length ≤ 17592186044415) (h0 : (pol b : Po (El p m mod)) ≠ 0) :
  Pure Try.prog 31 #[.pointer (some g.p), .slice A n c, .slice B k d] [gfR g, ro A (ints a), ro B (ints b)] (two (fun v ch ch2 => ∃ B1 c1 B2 c2, v = .tuple #[.slice B1 (il (Po.quo (pol a : Po (El p m mod)) (pol b : Po (El p m mod)))).length c1, .slice B2 (il (Po.rem (pol a : Po (El p m mod)) (pol b : Po (El p m mod)))).length c2, .int .i64 0] ∧ ch = ow B1 3 c1 (ints (il (Po.quo (pol a : Po (El p m mod)) (pol b : Po (El p m mod))))) ∧ ch2 = ow B2 3 c2 (ints (il (Po.rem (pol a : Po (El p m mod)) (pol b : Po (El p m mod))))))) := by
 have hq2 := hF.q2
 have hla := il_le (p := p) (m := m) (mod := mod) a
 have hlb := il_le (p := p) (m := m) (mod := mod) b
 have hz : 0 < (il (pol b : Po (El p m mod))).length := by rw [il_length]; exact Po.len_pos h0
 have hld : (el ((il (pol b : Po (El p m mod))).getD (((il (pol b : Po (El p m mod))).length : Int) - 1).toNat 0) : El p m mod) = Po.lead (pol b : Po (El p m mod)) := by rw [il_getD, el_of, Po.lead, il_length, show ((Po.len (pol b : Po (El p m mod)) : Int) - 1).toNat = Po.len (pol b : Po (El p m mod)) - 1 by omega]
 have hnz : (el ((il (pol b : Po (El p m mod))).getD (((il (pol b : Po (El p m mod))).length : Int) - 1).toNat 0) : El p m mod) ≠ 0 := by rw [hld]; exact Po.lead_nz h0
 refine pure_of (args := [.pointer (some g.p), .slice A n c, .slice B k d]) 96 Try.func31 rfl rfl rfl poly_DivMod_ent ⟨id, id, id, trivial⟩ (fun w0 => ?_)
 refine tS ?_
 refine tR fun _ _ _ => ?_
 iterate 3 refine pV ?_
 refine tS ?_
 refine tR fun _ _ _ => ?_
 iterate 2 refine pV ?_
 refine eV (eCall1 rfl rfl rfl (poly_CanonE g hg _ _ _ _ (by first | omega | rfl | simp) (by omega)) ⟨rfl, rfl, trivial⟩ ?_)
 rintro _ _ ⟨B1, c1, rfl, hcap1, rfl⟩
 iterate 2 refine pV ?_
 refine eV (eCall1 rfl rfl rfl (poly_CanonE g hg _ _ _ _ (by first | omega | rfl | simp) (by omega)) ⟨rfl, rfl, trivial⟩ ?_)
 rintro _ _ ⟨B1a, c1a, rfl, hcap1a, rfl⟩
 iterate 2 refine pV ?_
 refine tS ?_
 refine tS ?_
 refine tR fun _ _ _ => ?_
 refine pV ?_
 refine sV (rLen rfl rfl) ?_
 refine pV ?_
 refine tC rfl (fun h2 => ?_) (fun h2 => ?_)
 ·try simp only [zbA] at h2
  omega --done
 ·try simp only [zbA] at h2
  refine tK ?_
  refine tS ?_
  refine tR fun _ _ _ => ?_
  iterate 3 refine pV ?_
  refine sV (rLen rfl rfl) ?_
  refine sV (rSub rfl rfl rfl (by omega) (by omega)) ?_
  refine sV (rIdxI rfl rfl rfl (by omega) (by omega) (by omega)) ?_
  refine sV (rLdI rfl rfl (by omega)) ?_
  refine eV (eCallV rfl rfl rfl (gf_InvE g hg _ hnz) ⟨rfl, rfl, trivial⟩ ?_)
  iterate 5 refine pV ?_
  refine tS ?_
  rw [hld]
  refine tR fun _ _ _ => ?_
  refine pV ?_
  refine sV (rLen rfl rfl) ?_
  refine pV ?_
  refine sV (rLen rfl rfl) ?_
  refine sV (rSub rfl rfl rfl (by omega) (by omega)) ?_
  refine sV (rAdd rfl rfl rfl (by omega) (by omega)) ?_
  refine sV (rMax rfl rfl rfl) ?_
  refine eV (eMakeI rfl rfl rfl rfl rfl (by omega) (by omega) (by omega) (fun A5 => ?_))
  refine pV ?_
  generalize hN : (max 0 (((il (pol a : Po (El p m mod))).length : Int) - (il (pol b : Po (El p m mod))).length + 1)).toNat = N
  refine tS ?_
  refine tS ?_
  refine tR fun _ _ _ => ?_
  refine pV ?_
  refine sV (rLen rfl rfl) ?_
  refine pV ?_
  refine sV (rLen rfl rfl) ?_
  refine sV (rSub rfl rfl rfl (by omega) (by omega)) ?_
  refine pV ?_
  refine tB ?_
  refine tr_loop3 (fun (i : Int) (r : List Int) (qs : List Int) => [(0, .pointer (some g.p)), (2, .slice B1a (il (pol b : Po (El p m mod))).length c1a), (6, .slice A5 N N), (7, .slice B1 (il (pol a : Po (El p m mod))).length c1), (9, .int .i64 (Fd.inv (Po.lead (pol b : Po (El p m mod)))).1), (11, .int .i64 i)]) (fun (i : Int) (r : List Int) (qs : List Int) => [ow A5 3 N (ints qs), ow B1a 3 c1a (ints (il (pol b : Po (El p m mod)))), ow B1 3 c1 (ints r), gfR g]) (fun (i : Int) (r : List Int) (qs : List Int) => (i ≤ ((il (pol a : Po (El p m mod))).length : Int) - (il (pol b : Po (El p m mod))).length ∧ 0 ≤ ((il (pol b : Po (El p m mod))).length : Int) + i) ∧ (r.length = (il (pol a : Po (El p m mod))).length ∧ AllIn (pw p m) r) ∧ (qs.length = N ∧ AllIn (pw p m) qs) ∧ (∀ j : Nat, (j : Int) ≤ i → qs.getD j 0 = 0) ∧ Po.Sh (pol r : Po (El p m mod)) (((il (pol b : Po (El p m mod))).length : Int) + i).toNat ∧ (pol a : Po (El p m mod)) = pol qs * (pol b : Po (El p m mod)) + pol r) (fun (i : Int) (r : List Int) (qs : List Int) => (i + 1).toNat) (((il (pol a : Po (El p m mod))).length : Int) - (il (pol b : Po (El p m mod))).length) (il (pol a : Po (El p m mod))) (List.replicate N 0) ⟨rfl, rfl, rfl, rfl, rfl, rfl, trivial⟩ (by first | exact cs _ _ | exact CSub.refl _) (⟨⟨by omega, by omega⟩, ⟨rfl, il_in _⟩, ⟨by simp, allIn_rep (by omega) _⟩, fun j _ => rep_get _ _, fun j hj => by rw [cf_pol, il_getD, el_of]; exact Po.cf_ge (by rw [← il_length]; omega), by rw [pol_rep, pol_il]; grind⟩) (fun i r qs hI => ?_)
  obtain ⟨⟨hi0, hi1⟩, ⟨hrl, hri⟩, ⟨hql, hqi⟩, hq0, hsh, heq⟩ := hI
  refine tS ?_
  refine tS ?_
  refine tR fun _ _ _ => ?_
  iterate 2 refine pV ?_
  refine tC rfl (fun h7 => ?_) (fun h7 => ?_)
  ·try simp only [zbA] at h7
   refine tK ?_
   refine tS ?_
   refine tB ?_
   refine tS ?_
   refine tR fun _ _ _ => ?_
   iterate 4 refine pV ?_
   refine sV (rLen rfl rfl) ?_
   refine sV (rAdd rfl rfl rfl (by omega) (by omega)) ?_
   refine sV (rSub rfl rfl rfl (by omega) (by omega)) ?_
   refine sV (rIdxI rfl rfl rfl (by omega) (by omega) (by omega)) ?_
   refine sV (rLdI rfl rfl (by omega)) ?_
   refine pV ?_
   refine eV (eCallV rfl rfl rfl (gf_MulE g hg _ _) ⟨rfl, rfl, rfl, trivial⟩ ?_)
   refine pV ?_
   rw [el_of]
   generalize hc : (el (r.getD (i + (il (pol b : Po (El p m mod))).length - 1).toNat 0) * Fd.inv (Po.lead (pol b : Po (El p m mod))) : El p m mod) = cc
   have hcb := cc.2
   refine tS ?_
   refine tR fun _ _ _ => ?_
   iterate 3 refine pV ?_
   refine sV (rIdxI rfl rfl rfl (by omega) (by omega) (by omega)) ?_
   refine eV (eStI rfl rfl rfl rfl (by omega) ?_)
   skip
   refine tS ?_
   refine tR fun _ _ _ => ?_
   refine pV ?_
   refine sV (rLen rfl rfl) ?_
   refine pV ?_
   refine tB ?_
   refine tr_loop2 (fun (j : Int) (r2 : List Int) => [(0, .pointer (some g.p)), (2, .slice B1a (il (pol b : Po (El p m mod))).length c1a), (6, .slice A5 N N), (7, .slice B1 (il (pol a : Po (El p m mod))).length c1), (9, .int .i64 (Fd.inv (Po.lead (pol b : Po (El p m mod)))).1), (11, .int .i64 i), (12, .int .i64 cc.1), (67, .slice B1a (il (pol b : Po (El p m mod))).length c1a), (68, .int .i64 (il (pol b : Po (El p m mod))).length), (69, .int .i64 j)]) (fun (j : Int) (r2 : List Int) => [ow A5 3 N (ints (qs.set i.toNat cc.1)), ow B1a 3 c1a (ints (il (pol b : Po (El p m mod)))), ow B1 3 c1 (ints r2), gfR g]) (fun (j : Int) (r2 : List Int) => (0 ≤ j ∧ j ≤ (il (pol b : Po (El p m mod))).length) ∧ (r2.length = (il (pol a : Po (El p m mod))).length ∧ AllIn (pw p m) r2) ∧ (pol r2 : Po (El p m mod)) = pol r - Po.mn cc i.toNat * pol ((il (pol b : Po (El p m mod))).take j.toNat)) (fun (j : Int) (r2 : List Int) => (((il (pol b : Po (El p m mod))).length : Int) - j).toNat) (0) (r) ⟨rfl, rfl, rfl, rfl, rfl, rfl, rfl, rfl, rfl, rfl, trivial⟩ (by first | exact cs _ _ | exact CSub.refl _) (⟨⟨by omega, by omega⟩, ⟨hrl, hri⟩, by rw [Int.toNat_zero, pol_take_zero]; grind⟩) (fun j r2 hI => ?_)
   obtain ⟨⟨hj0, hj1⟩, ⟨hr2l, hr2i⟩, hr2⟩ := hI
   refine tS ?_
   refine tR fun _ _ _ => ?_
   refine pV ?_
   refine tS ?_
   refine tC rfl (fun h12 => ?_) (fun h12 => ?_)
   ·try simp only [zbA] at h12
    refine tK ?_
    refine tS ?_
    refine tB ?_
    refine tS ?_
    refine tR fun _ _ _ => ?_
    refine pV ?_
    refine sV (rIdxI rfl rfl rfl (by omega) (by omega) (by omega)) ?_
    refine sV (rLdI rfl rfl (by omega)) ?_
    iterate 2 refine pV ?_
    refine tr_draw [0, 1, 2, 3, 4, 5, 6, 7, 8, 9, 10, 11, 12, 13, 14, 15, 16] [17] mixed (by kernel_rfl) fun _ _ _ => ?_
    iterate 3 refine pV ?_
    refine sV (rAdd rfl rfl rfl (by omega) (by omega)) ?_
    iterate 4 refine pV ?_
    refine sV (rAdd rfl rfl rfl (by omega) (by omega)) ?_
    refine sV (rIdxI rfl rfl rfl (by omega) (by omega) (by omega)) ?_
    refine sV (rLdI rfl rfl (by omega)) ?_
    iterate 3 refine pV ?_
    refine eV (eCallV rfl rfl rfl (gf_MulE g hg _ _) ⟨rfl, rfl, rfl, trivial⟩ ?_)
    refine eV (eCallV rfl rfl rfl (gf_SubE g hg _ _) ⟨rfl, rfl, rfl, trivial⟩ ?_)
    refine sV (rIdxI rfl rfl rfl (by omega) (by omega) (by omega)) ?_
    refine eV (eStI rfl rfl rfl rfl (by omega) ?_)
    refine tR fun _ _ _ => ?_
    refine sV (rAdd rfl rfl rfl (by omega) (by omega)) ?_
    refine pV ?_
    refine ⟨j + 1, r2.set (i + j).toNat (el (r2.getD (i + j).toNat 0) - el (el cc.1 * el ((il (pol b : Po (El p m mod))).getD j.toNat 0) : El p m mod).1 : El p m mod).1, ⟨rfl, rfl, rfl, rfl, rfl, rfl, rfl, rfl, rfl, rfl, trivial⟩, by first | exact cs _ _ | exact CSub.refl _, ?_⟩
    refine ⟨⟨⟨by omega, by omega⟩, ⟨by simpa using hr2l, hr2i.set (El.bd _) _⟩, ?_⟩, by omega⟩
    rw [pol_set_add (d := -(cc * el ((il (pol b : Po (El p m mod))).getD j.toNat 0))) r2 (by omega) (by rw [el_of, el_of, el_of]; grind), hr2, show (j + 1).toNat = j.toNat + 1 by omega, pol_take_succ, show (i + j).toNat = i.toNat + j.toNat by omega]
    have e1 := Po.mn_mul cc (el ((il (pol b : Po (El p m mod))).getD j.toNat 0)) i.toNat j.toNat
    have e2 := Po.mn_neg (cc * el ((il (pol b : Po (El p m mod))).getD j.toNat 0)) (i.toNat + j.toNat)
    grind
   ·try simp only [zbA] at h12
    refine tE ?_
    refine tR fun _ _ _ => ?_
    refine pV ?_
    refine sV (rSub rfl rfl rfl (by omega) (by omega)) ?_
    refine pV ?_
    refine ⟨i - 1, r2, qs.set i.toNat cc.1, ⟨rfl, rfl, rfl, rfl, rfl, rfl, trivial⟩, by first | exact cs _ _ | exact CSub.refl _, ?_⟩
    have hjn : j = (il (pol b : Po (El p m mod))).length := by omega
    rw [hjn, Int.toNat_natCast, List.take_length, pol_il] at hr2
    have hds := Po.div_step (f := (pol r : Po (El p m mod))) h0 (n := i.toNat) (by rw [← il_length]; exact hsh.mono (by omega))
    have htop : Po.cf (pol r : Po (El p m mod)) (Po.len (pol b : Po (El p m mod)) + i.toNat - 1) = el (r.getD (i + (il (pol b : Po (El p m mod))).length - 1).toNat 0) := by rw [cf_pol, ← il_length, show (il (pol b : Po (El p m mod))).length + i.toNat - 1 = (i + (il (pol b : Po (El p m mod))).length - 1).toNat by omega]
    rw [htop, hc, ← hr2, ← il_length] at hds
    refine ⟨⟨⟨by omega, by omega⟩, ⟨hr2l, hr2i⟩, ⟨by simpa using hql, hqi.set hcb _⟩, fun j hj => ?_, hds.mono (by omega), ?_⟩, by omega⟩
    ·rw [getD_set, if_neg (by omega)]; exact hq0 j (by omega)
    ·rw [hr2, pol_set_add (d := cc) qs (by omega) (by rw [hq0 _ (by omega), el_zero, el_of]; grind)]
     exact div_acc heq
  ·try simp only [zbA] at h7
   refine tE ?_
   refine tS ?_
   refine tR fun _ _ _ => ?_
   refine pV ?_
   refine eV (eCallV rfl rfl rfl (poly_trim _ _ _ qs (by omega) (by omega) (by omega)) ⟨rfl, trivial⟩ ?_)
   refine pV ?_
   refine eV (eCallV rfl rfl rfl (poly_trim _ _ _ r (by omega) (by omega) (by omega)) ⟨rfl, trivial⟩ ?_)
   iterate 3 refine pV ?_
   obtain ⟨hqq, hrr⟩ := Po.div_of heq (by rw [← il_length (f := (pol b : Po (El p m mod)))]; have := Po.len_le hsh; omega)
   rw [hqq, hrr, il_trim hqi, il_trim hri]
   exact tr_ret ⟨trivial, _, _, rfl, ⟨_, _, rfl, A5, N, B1, c1, rfl, rfl, rfl⟩, (cs _ [ow A5 3 N (ints qs), ow B1 3 c1 (ints r)]).trans ((shrink_trim _ _).trans (CSub.cons _ (shrink_trim _ _))), trivial, trivial, trivial⟩
theorem poly_Gcd_ent : Enters Try.prog 34 := enters_of Try.func34 (by kernel_rfl) (by kernel_rfl)
theorem poly_Gcd (g : GfM) {p m : Int} {mod : List Int} [hF : IsF p m mod] (hg : GOk g p m mod) (A : Option Addr) (n c : Nat) (a : List Int) (hn : n = a.length) (ha9 : a.length ≤ 17592186044415) (B : Option Addr) (k d : Nat) (b : List Int) (hk : k = b.length) (hb9 : b.length ≤ 17592186044415) (h0 : (pol a : Po (El p m mod)) ≠ 0 ∨ (pol b : Po (El p m mod)) ≠ 0) :
  Pure Try.prog 34 #[.pointer (some g.p), .slice A n c, .slice B k d] [gfR g, ro A (ints a), ro B (ints b)] (one (fun v ch => ∃ B cap, v = .slice B (il (Po.gcd (pol a : Po (El p m mod)) (pol b : Po (El p m mod)))).length cap ∧ ch = ow B 3 cap (ints (il (Po.gcd (pol a : Po (El p m mod)) (pol b : Po (El p m mod))))))) := by
 have hq2 := hF.q2
 have hla := il_le (p := p) (m := m) (mod := mod) a
 have hlb := il_le (p := p) (m := m) (mod := mod) b
 refine pure_of (args := [.pointer (some g.p), .slice A n c, .slice B k d]) 38 Try.func34 rfl rfl rfl poly_Gcd_ent ⟨id, id, id, trivial⟩ (fun w0 => ?_)
 refine tS ?_
 refine tR fun _ _ _ => ?_
 refine pV ?_
 refine tS ?_
 refine tR fun _ _ _ => ?_
 iterate 2 refine pV ?_
 refine eV (eCall1 rfl rfl rfl (poly_CanonE g hg _ _ _ _ (by first | omega | rfl | simp) (by omega)) ⟨rfl, rfl, trivial⟩ ?_)
 rintro _ _ ⟨B1, c1, rfl, hcap1, rfl⟩
 iterate 2 refine pV ?_
 refine eV (eCall1 rfl rfl rfl (poly_CanonE g hg _ _ _ _ (by first | omega | rfl | simp) (by omega)) ⟨rfl, rfl, trivial⟩ ?_)
 rintro _ _ ⟨B1a, c1a, rfl, hcap1a, rfl⟩
 iterate 2 refine pV ?_
 refine tS ?_
 refine tB ?_
 refine tr_loop6 (fun (f : Po (El p m mod)) (h : Po (El p m mod)) (A6 : Option Addr) (c6 : Nat) (A7 : Option Addr) (c7 : Nat) => [(0, .pointer (some g.p)), (1, .slice A6 (il f).length c6), (2, .slice A7 (il h).length c7)]) (fun (f : Po (El p m mod)) (h : Po (El p m mod)) (A6 : Option Addr) (c6 : Nat) (A7 : Option Addr) (c7 : Nat) => [ow A6 3 c6 (ints (il f)), ow A7 3 c7 (ints (il h)), gfR g]) (fun (f : Po (El p m mod)) (h : Po (El p m mod)) (A6 : Option Addr) (c6 : Nat) (A7 : Option Addr) (c7 : Nat) => (f ≠ 0 ∨ h ≠ 0) ∧ (Po.len f ≤ 17592186044415 ∧ Po.len h ≤ 17592186044415) ∧ Po.gcd f h = Po.gcd (pol a : Po (El p m mod)) (pol b : Po (El p m mod))) (fun (f : Po (El p m mod)) (h : Po (El p m mod)) (A6 : Option Addr) (c6 : Nat) (A7 : Option Addr) (c7 : Nat) => Po.len h) ((pol a : Po (El p m mod))) ((pol b : Po (El p m mod))) (B1) (c1) (B1a) (c1a) ⟨rfl, rfl, rfl, trivial⟩ (by first | exact cs _ _ | exact CSub.refl _) (⟨h0, ⟨by rw [← il_length]; omega, by rw [← il_length]; omega⟩, rfl⟩) (fun f h A6 c6 A7 c7 hI => ?_)
 obtain ⟨hnz, ⟨hfl, hhl⟩, hgc⟩ := hI
 refine tS ?_
 refine tS ?_
 refine tR fun _ _ _ => ?_
 refine pV ?_
 refine sV (rLen rfl rfl) ?_
 refine pV ?_
 refine tC rfl (fun h2 => ?_) (fun h2 => ?_)
 ·try simp only [zbA] at h2
  refine tK ?_
  refine tB ?_
  refine tS ?_
  have hh : h ≠ 0 := Po.len_pos_iff.1 (by rw [← il_length]; omega)
  have hrl := Po.rem_len f hh
  have hgs := Po.gcd_step f hh
  refine tR fun _ _ _ => ?_
  iterate 3 refine pV ?_
  refine eV (eCall2 rfl rfl rfl (poly_DivMod g hg _ _ _ (il f) rfl (by rw [il_length]; omega) _ _ _ (il h) rfl (by rw [il_length]; omega) (by rw [pol_il]; exact hh)) ⟨rfl, rfl, rfl, trivial⟩ ?_)
  rintro _ _ _ ⟨A3, c3, B3, d3, rfl, rfl, rfl⟩
  iterate 7 refine pV ?_
  simp only [pol_il]
  refine tR fun _ _ _ => ?_
  iterate 4 refine pV ?_
  refine ⟨h, Po.rem f h, A7, c7, B3, d3, ⟨rfl, rfl, rfl, trivial⟩, by first | exact cs _ _ | exact CSub.refl _, ?_⟩
  exact ⟨⟨.inl hh, ⟨hhl, by omega⟩, by rw [← hgs, hgc]⟩, hrl⟩
 ·try simp only [zbA] at h2
  refine tE ?_
  refine tS ?_
  have hh : h = 0 := Po.eq_zero_of_len (by rw [← il_length]; omega)
  have hf0 : f ≠ 0 := hnz.resolve_right (fun e => e hh)
  rw [hh, Po.gcd_zero] at hgc
  refine tR fun _ _ _ => ?_
  iterate 2 refine pV ?_
  refine eV (eCall1 rfl rfl rfl (poly_Monic g hg _ _ _ (il f) rfl (by rw [il_length]; omega) (by rw [pol_il]; exact hf0)) ⟨rfl, rfl, trivial⟩ ?_)
  rintro _ _ ⟨B5, c5, rfl, rfl⟩
  iterate 5 refine pV ?_
  simp only [pol_il, hgc]
  refine tS ?_
  refine tR fun _ _ _ => ?_
  iterate 2 refine pV ?_
  exact tr_ret ⟨trivial, _, _, rfl, ⟨_, rfl, _, _, rfl, rfl⟩, cs _ _, trivial, trivial⟩
section
end
end Go.Proofs.Ytdkahdehodopoaa

set_option maxRecDepth 100000
namespace Go.Proofs.Ytdkahdehodopoaa
open Go.RowKit
section
variable {p m : Int} {mod : List Int} [hF : IsF p m mod]
theorem getD_out {l : List Int} {j : Nat} (h : l.length ≤ j) : l.getD j 0 = 0 := by rw [List.getD_eq_getElem?_getD, List.getElem?_eq_none h]; rfl
end
end Go.Proofs.Ytdkahdehodopoaa

namespace Go.Proofs.Ytdkahdehodopoaa
namespace Vc
end Vc
end Go.Proofs.Ytdkahdehodopoaa

set_option maxRecDepth 100000
namespace Go.Proofs.Ytdkahdehodopoaa
open Go.RowKit
section
end
end Go.Proofs.Ytdkahdehodopoaa

set_option maxRecDepth 100000
namespace Go.Proofs.Ytdkahdehodopoaa
open Go.RowKit
end Go.Proofs.Ytdkahdehodopoaa

set_option maxRecDepth 100000
namespace Go.Proofs.Ytdkahdehodopoaa
open Go.RowKit
end Go.Proofs.Ytdkahdehodopoaa

set_option maxRecDepth 100000
namespace Go.Proofs.Ytdkahdehodopoaa
open Go.RowKit
end Go.Proofs.Ytdkahdehodopoaa

set_option maxRecDepth 100000
namespace Go.Proofs.Ytdkahdehodopoaa
open Go.RowKit
end Go.Proofs.Ytdkahdehodopoaa

set_option maxRecDepth 100000
namespace Go.Proofs.Ytdkahdehodopoaa
open Go.RowKit
section
end
end Go.Proofs.Ytdkahdehodopoaa

set_option maxRecDepth 100000
namespace Go.Proofs.Ytdkahdehodopoaa
open Go.RowKit
end Go.Proofs.Ytdkahdehodopoaa

namespace Go.Proofs.Ytdkahdehodopoaa
open Go.RowKit
section
variable {K : Type} [Fd K]
def pv (f : Po K) : Vc K := fun j => Po.cf f j
end
section
end
section
end
end Go.Proofs.Ytdkahdehodopoaa

namespace Go.Proofs.Ytdkahdehodopoaa
open Go.RowKit
section
end
section
end
section
end
section
end
section
end
end Go.Proofs.Ytdkahdehodopoaa

namespace Go.Proofs.Ytdkahdehodopoaa
open Go.RowKit
namespace Vc
end Vc
section
end
end Go.Proofs.Ytdkahdehodopoaa

namespace Go.Proofs.Ytdkahdehodopoaa
open Go.RowKit
section
end
section
end
section
end
end Go.Proofs.Ytdkahdehodopoaa

namespace Go.Proofs.Ytdkahdehodopoaa
open Go.RowKit
section
end
end Go.Proofs.Ytdkahdehodopoaa

namespace Go.Proofs.Ytdkahdehodopoaa
open Go.RowKit
section
end
end Go.Proofs.Ytdkahdehodopoaa

namespace Go.Proofs.Ytdkahdehodopoaa
open Go.RowKit
section
variable {R : Type} [Rg R]
theorem nc_add (a : Nat) : ∀ b : Nat, (Rg.nc (a + b) : R) = Rg.nc a + Rg.nc b
 | 0 => (Rg.add_zero _).symm
 | b + 1 => by rw [← Nat.add_assoc, Rg.nc_succ, Rg.nc_succ, nc_add a b, Rg.add_assoc]
end
section
variable {K : Type} [Fd K]
def dP (f : Po K) : Po K := ⟨fun j => Rg.nc (j + 1) * Po.cf f (j + 1), by
 obtain ⟨n, hn⟩ := f.2
 exact ⟨n, fun j hj => by
  have : Po.cf f (j + 1) = 0 := hn (j + 1) (by omega)
  show Rg.nc (j + 1) * Po.cf f (j + 1) = 0
  rw [this, Rg.mul_zero]⟩⟩
theorem cf_dP (f : Po K) (j : Nat) : Po.cf (dP f) j = Rg.nc (j + 1) * Po.cf f (j + 1) := rfl
theorem dP_add (f g : Po K) : dP (f + g) = dP f + dP g := Po.ext fun j => by rw [Po.cf_add, cf_dP, cf_dP, cf_dP, Po.cf_add, Rg.mul_add]
theorem dP_zero : dP (0 : Po K) = 0 := Po.ext fun j => Rg.mul_zero _
theorem dP_mn_mul (c : K) (i : Nat) (g : Po K) : dP (Po.mn c i * g) = dP (Po.mn c i) * g + Po.mn c i * dP g := by
 have h1 : dP (Po.mn c i) = Po.mn (Rg.nc i * c) (i - 1) := Po.ext fun j => by
  rw [cf_dP, Po.cf_mn, Po.cf_mn]
  by_cases h0 : i = 0
  ·subst h0
   have hz : (Rg.nc 0 : K) = 0 := rfl
   rw [if_neg (by omega), Rg.mul_zero, hz, Rg.zero_mul]; split <;> rfl
  ·by_cases h : j + 1 = i
   ·rw [if_pos h, if_pos (by omega), h]
   ·rw [if_neg h, if_neg (by omega), Rg.mul_zero]
 rw [h1]
 refine Po.ext fun j => ?_
 rw [Po.cf_add, cf_dP, Po.cf_mn_mul, Po.cf_mn_mul, Po.cf_mn_mul, cf_dP]
 by_cases h0 : i = 0
 ·subst h0
  have hz : (Rg.nc 0 : K) = 0 := rfl
  rw [if_neg (by omega), if_neg (by omega), if_neg (by omega), hz, Rg.zero_mul, Rg.zero_mul, Rg.zero_add]
  simp only [Nat.sub_zero]
  grind
 ·by_cases h2 : j + 1 < i
  ·rw [if_pos h2, if_pos (by omega), if_pos (by omega), Rg.mul_zero, Rg.add_zero]
  ·by_cases h3 : j < i
   ·rw [if_neg h2, if_neg (by omega), if_pos h3, show j + 1 = i by omega, Nat.sub_self, show j - (i - 1) = 0 by omega, Rg.add_zero, Rg.mul_assoc]
   ·have e := nc_add (R := K) i (j + 1 - i)
    rw [show i + (j + 1 - i) = j + 1 by omega] at e
    rw [if_neg h2, if_neg (by omega), if_neg h3, e, show j - (i - 1) = j + 1 - i by omega, show j - i + 1 = j + 1 - i by omega]
    grind
theorem dP_mul (f g : Po K) : dP (f * g) = dP f * g + f * dP g := by
 refine Po.ind (P := fun f => dP (f * g) = dP f * g + f * dP g) (by rw [Rg.zero_mul, dP_zero, Rg.zero_mul, Rg.zero_mul, Rg.zero_add]) (fun c n f ih => ?_) f
 rw [Rg.add_mul, dP_add, ih, dP_mn_mul, dP_add]
 grind
end
section
variable {p m : Int} {mod : List Int} [hF : IsF p m mod]
theorem nc_val (k : Nat) : (Rg.nc k : El p m mod).1 = (k : Int) % p := by
 have hp := hF.out.1.1.p2
 have hm := hF.out.1.1.m1
 induction k with
 | zero => exact (Int.zero_emod p).symm
 | succ k ih =>
  rw [Rg.nc_succ, add_val, ih, one_val, addI_rec, show m.toNat = (m.toNat - 1) + 1 by omega, addD]
  have h1 := Int.emod_nonneg (k : Int) (show p ≠ 0 by omega)
  have h2 := Int.emod_lt_of_pos (k : Int) (show 0 < p by omega)
  rw [Int.ediv_eq_zero_of_lt h1 h2, Int.ediv_eq_zero_of_lt (show (0 : Int) ≤ 1 by omega) (show 1 < p by omega), addD_zero, Int.mul_zero, Int.add_zero, Int.emod_emod_of_dvd _ (Int.dvd_refl p), ← Int.add_emod]
  push_cast
  rfl
end
end Go.Proofs.Ytdkahdehodopoaa

namespace Go.Proofs.Ytdkahdehodopoaa
open Go.RowKit
theorem IsF.p2 {p m : Int} {mod : List Int} (hF : IsF p m mod) : 2 ≤ p := hF.out.1.1.p2
theorem IsF.m1 {p m : Int} {mod : List Int} (hF : IsF p m mod) : 1 ≤ m := hF.out.1.1.m1
section
variable {p m : Int} {mod : List Int} [hF : IsF p m mod]
theorem all_pow (a : El p m mod) : Rg.pow a (pw p m).toNat = a := by
 have hq := hF.q2
 by_cases h : a = 0
 ·rw [h]; exact Rg.zero_pow (by omega)
 ·have h1 := Fd.Nz.pow (elNz_nz hF.out) h
  rw [elNz_len, Fd.pow_eq] at h1
  have e : (pw p m).toNat = (pw p m - 1).toNat + 1 := by omega
  rw [e, Rg.pow_succ]
  exact (congrArg (fun z => z * a) h1).trans (Rg.one_mul a)
theorem all_powk (a : El p m mod) : ∀ k : Nat, Rg.pow a ((pw p m).toNat ^ k) = a
 | 0 => Rg.pow_one a
 | k + 1 => by rw [Nat.pow_succ, Rg.pow_mul, all_powk a k, all_pow]
end
theorem roots_len {K : Type} [Fd K] : ∀ (rs : List K) (f : Po K), rs.Nodup → f ≠ 0 → (∀ a ∈ rs, Po.val f a = 0) → rs.length < Po.len f
 | [], f, _, hf, _ => Po.len_pos hf
 | r :: rs, f, hn, hf, h => by
  obtain ⟨g, hg⟩ := (Po.root_iff f r).1 (h r (List.mem_cons_self ..))
  have hn := List.nodup_cons.1 hn
  have hg0 : g ≠ 0 := fun e => hf (by rw [hg, e, Rg.mul_zero])
  have ih := roots_len rs g hn.2 hg0 (fun a ha => by
   have h1 := h a (List.mem_cons_of_mem _ ha)
   rw [hg, Po.val_mul, Po.val_lin] at h1
   exact (Fd.mul_eq_zero h1).resolve_left (fun e => hn.1 (by have : a = r := Rg.eq_of_sub e; rwa [← this])))
  rw [hg, Po.len_mul (Po.lin_ne r) hg0, Po.len_lin, List.length_cons]
  omega
section
end
section
end
end Go.Proofs.Ytdkahdehodopoaa

set_option maxRecDepth 100000
namespace Go.Proofs.Ytdkahdehodopoaa
open Go.RowKit
end Go.Proofs.Ytdkahdehodopoaa

set_option maxRecDepth 100000
namespace Go.Proofs.Ytdkahdehodopoaa
open Go.RowKit
theorem slc_Equal_ent : Enters Try.prog 36 := enters_of Try.func36 (by kernel_rfl) (by kernel_rfl)
theorem slc_Equal (A : Option Addr) (n c : Nat) (a : List Int) (hn : n = a.length) (B : Option Addr) (m d : Nat) (b : List Int) (hm : m = b.length) (h9 : a.length ≤ 17592186044415) :
  Pure Try.prog 36 #[.slice A n c, .slice B m d] [ro A (ints a), ro B (ints b)] (isV (.bool (decide (a = b)))) := by
 refine pure_of (args := [.slice A n c, .slice B m d]) 26 Try.func36 rfl rfl rfl slc_Equal_ent ⟨id, id, trivial⟩ (fun w0 => ?_)
 refine tS ?_
 refine tR fun _ _ _ => ?_
 refine pV ?_
 refine tS ?_
 refine tS ?_
 refine tR fun _ _ _ => ?_
 refine pV ?_
 refine sV (rLen rfl rfl) ?_
 refine pV ?_
 refine sV (rLen rfl rfl) ?_
 refine pV ?_
 refine tC rfl (fun h1 => ?_) (fun h1 => ?_)
 ·try simp only [zbA] at h1
  refine tS ?_
  refine tR fun _ _ _ => ?_
  refine pV ?_
  exact tr_ret ⟨trivial, _, _, rfl, ⟨by rw [decide_eq_false (fun h => by rw [h] at hn; omega)], rfl⟩, CSub.nil _, trivial⟩
 ·try simp only [zbA] at h1
  refine tK ?_
  refine tS ?_
  refine tS ?_
  refine tR fun _ _ _ => ?_
  refine pV ?_
  refine sV (rLen rfl rfl) ?_
  refine pV ?_
  refine tB ?_
  refine tr_loop1 (fun (i : Nat) => [(13, .int .i64 i), (0, .slice A n c), (1, .slice B m d), (12, .int .i64 n)]) (fun (i : Nat) => [ro A (ints a), ro B (ints b)]) (fun (i : Nat) => i ≤ a.length ∧ a.take i = b.take i) (fun (i : Nat) => a.length - i) (0) ⟨rfl, rfl, rfl, rfl, trivial⟩ (by first | exact cs _ _ | exact CSub.refl _) (⟨by omega, rfl⟩) (fun i hI => ?_)
  obtain ⟨hi, ht⟩ := hI
  have hll : a.length = b.length := by omega
  refine tS ?_
  refine tR fun _ _ _ => ?_
  refine pV ?_
  refine tS ?_
  refine tC rfl (fun h4 => ?_) (fun h4 => ?_)
  ·try simp only [zbA] at h4
   refine tK ?_
   refine tS ?_
   refine tB ?_
   refine tS ?_
   refine tR fun _ _ _ => ?_
   iterate 2 refine pV ?_
   refine tS ?_
   refine tr_draw [0, 1, 2, 3, 4, 5, 6, 7, 8] [] mixed (by kernel_rfl) fun _ _ _ => ?_
   iterate 2 refine pV ?_
   refine sV (rIdxI rfl rfl rfl (by omega) (by omega) (by omega)) ?_
   refine sV (rLdI rfl rfl (by omega)) ?_
   iterate 2 refine pV ?_
   refine sV (rIdxI rfl rfl rfl (by omega) (by omega) (by omega)) ?_
   refine sV (rLdI rfl rfl (by omega)) ?_
   refine pV ?_
   refine tC rfl (fun h6 => ?_) (fun h6 => ?_)
   ·try simp only [zbA] at h6
    refine tS ?_
    refine tR fun _ _ _ => ?_
    refine pV ?_
    exact tr_ret ⟨trivial, _, _, rfl, ⟨by rw [decide_eq_false (fun h => h6 (by rw [h]))], rfl⟩, CSub.nil _, trivial⟩
   ·try simp only [zbA] at h6
    refine tK ?_
    refine tR fun _ _ _ => ?_
    refine sV (rAdd rfl rfl rfl (by omega) (by omega)) ?_
    refine pV ?_
    refine ⟨i + 1, ⟨rfl, rfl, rfl, rfl, trivial⟩, by first | exact cs _ _ | exact CSub.refl _, ?_⟩
    exact ⟨⟨by omega, take_eq_next 0 a b hll (by omega) ht (by simpa using h6)⟩, by omega⟩
  ·try simp only [zbA] at h4
   refine tE ?_
   refine tS ?_
   refine tR fun _ _ _ => ?_
   refine pV ?_
   have hia : i = a.length := by omega
   rw [hia, List.take_length, hll, List.take_length] at ht
   exact tr_ret ⟨trivial, _, _, rfl, ⟨by rw [decide_eq_true ht], rfl⟩, CSub.nil _, trivial⟩
end Go.Proofs.Ytdkahdehodopoaa

set_option maxRecDepth 100000
namespace Go.Proofs.Ytdkahdehodopoaa
open Go.RowKit
end Go.Proofs.Ytdkahdehodopoaa

set_option maxRecDepth 100000
namespace Go.Proofs.Ytdkahdehodopoaa
open Go.RowKit
section
end
section
variable {p m : Int} {mod : List Int} [hF : IsF p m mod]
theorem C_neg_one (f : Po (El p m mod)) : Po.C (el (-(el 1 : El p m mod)).1 : El p m mod) * f = -f := Po.ext fun j => by rw [Po.cf_C_mul, el_of, el_one, Po.cf_neg]; grind
end
end Go.Proofs.Ytdkahdehodopoaa

set_option maxRecDepth 100000
namespace Go.Proofs.Ytdkahdehodopoaa
open Go.RowKit
end Go.Proofs.Ytdkahdehodopoaa

set_option maxRecDepth 100000
namespace Go.Proofs.Ytdkahdehodopoaa
open Go.RowKit
end Go.Proofs.Ytdkahdehodopoaa

set_option maxRecDepth 100000
namespace Go.Proofs.Ytdkahdehodopoaa
open Go.RowKit
section
end
end Go.Proofs.Ytdkahdehodopoaa

set_option maxRecDepth 100000
namespace Go.Proofs.Ytdkahdehodopoaa
open Go.RowKit
theorem poly_combine_ent : Enters Try.prog 69 := enters_of Try.func69 (by kernel_rfl) (by kernel_rfl)
theorem poly_combine (g : GfM) {p m : Int} {mod : List Int} [hF : IsF p m mod] (hg : GOk g p m mod) (A : Option Addr) (n c : Nat) (a : List Int) (hn : n = a.length) (ha9 : a.length ≤ 1000000) (x : Int) (B : Option Addr) (k d : Nat) (b : List Int) (hk : k = b.length) (hb9 : b.length ≤ 1000000) :
  Pure Try.prog 69 #[.pointer (some g.p), .slice A n c, .int .i64 x, .slice B k d] [gfR g, ro A (ints a), ro B (ints b)] (one (fun v ch => ∃ B cap, v = .slice B (il ((pol a : Po (El p m mod)) + Po.C (el x) * (pol b : Po (El p m mod)))).length cap ∧ ch = ow B 3 cap (ints (il ((pol a : Po (El p m mod)) + Po.C (el x) * (pol b : Po (El p m mod))))))) := by
 have hq2 := hF.q2
 refine pure_of (args := [.pointer (some g.p), .slice A n c, .int .i64 x, .slice B k d]) 57 Try.func69 rfl rfl rfl poly_combine_ent ⟨id, id, id, trivial⟩ (fun w0 => ?_)
 refine tS ?_
 refine tR fun _ _ _ => ?_
 refine pV ?_
 refine tS ?_
 refine tR fun _ _ _ => ?_
 refine pV ?_
 refine sV (rLen rfl rfl) ?_
 refine pV ?_
 refine sV (rLen rfl rfl) ?_
 refine sV (rMax rfl rfl rfl) ?_
 refine eV (eMakeI rfl rfl rfl rfl rfl (by omega) (by omega) (by omega) (fun A1 => ?_))
 refine pV ?_
 have hmx : (max (n : Int) (k : Int)).toNat = max n k := by omega
 simp only [hmx]
 refine tS ?_
 refine tS ?_
 refine tR fun _ _ _ => ?_
 refine pV ?_
 refine sV (rLen rfl rfl) ?_
 refine pV ?_
 refine tB ?_
 refine tr_loop2 (fun (i : Int) (o : List Int) => [(9, .slice A1 (max n k) (max n k)), (20, .slice A n c), (21, .int .i64 n), (22, .int .i64 i), (3, .slice B k d), (0, .pointer (some g.p)), (2, .int .i64 x), (8, .slice none 0 0)]) (fun (i : Int) (o : List Int) => [ow A1 3 (max n k) (ints o), gfR g, ro A (ints a), ro B (ints b)]) (fun (i : Int) (o : List Int) => (0 ≤ i ∧ i ≤ n) ∧ (o.length = max n k ∧ AllIn (pw p m) o) ∧ ∀ j : Nat, o.getD j 0 = if (j : Int) < i then (el (a.getD j 0) : El p m mod).1 else 0) (fun (i : Int) (o : List Int) => (n - i).toNat) (0) (List.replicate (max n k) 0) ⟨rfl, rfl, rfl, rfl, rfl, rfl, rfl, rfl, trivial⟩ (by first | exact cs _ _ | exact CSub.refl _) (⟨⟨by omega, by omega⟩, ⟨by simp, allIn_rep (by omega) _⟩, fun j => by rw [rep_get, if_neg (by omega)]⟩) (fun i o hI => ?_)
 obtain ⟨⟨hi0, hi1⟩, ⟨hol, hoi⟩, ho⟩ := hI
 refine tS ?_
 refine tR fun _ _ _ => ?_
 refine pV ?_
 refine tS ?_
 refine tC rfl (fun h3 => ?_) (fun h3 => ?_)
 ·try simp only [zbA] at h3
  refine tK ?_
  refine tS ?_
  refine tB ?_
  refine tS ?_
  refine tR fun _ _ _ => ?_
  refine pV ?_
  refine sV (rIdxI rfl rfl rfl (by omega) (by omega) (by omega)) ?_
  refine sV (rLdI rfl rfl (by omega)) ?_
  iterate 2 refine pV ?_
  refine tR fun _ _ _ => ?_
  iterate 4 refine pV ?_
  refine eV (eCallV rfl rfl rfl (gf_AddE g hg _ _) ⟨rfl, rfl, rfl, trivial⟩ ?_)
  refine sV (rIdxI rfl rfl rfl (by omega) (by omega) (by omega)) ?_
  refine eV (eStI rfl rfl rfl rfl (by omega) ?_)
  refine tR fun _ _ _ => ?_
  refine sV (rAdd rfl rfl rfl (by omega) (by omega)) ?_
  refine pV ?_
  refine ⟨i + 1, o.set i.toNat (el (a.getD i.toNat 0) + el 0 : El p m mod).1, ⟨rfl, rfl, rfl, rfl, rfl, rfl, rfl, rfl, trivial⟩, by first | exact cs _ _ | exact CSub.refl _, ?_⟩
  refine ⟨⟨⟨by omega, by omega⟩, ⟨by simpa using hol, hoi.set (El.bd _) _⟩, fun j => ?_⟩, by omega⟩
  rw [getD_set, ho j]
  by_cases he : i.toNat = j
  ·subst he; rw [if_pos ⟨rfl, by omega⟩, if_pos (by omega), el_zero, Rg.add_zero]
  ·rw [if_neg (fun e => he e.1)]
   by_cases h : (j : Int) < i
   ·rw [if_pos h, if_pos (by omega)]
   ·rw [if_neg h, if_neg (by omega)]
 ·try simp only [zbA] at h3
  refine tE ?_
  refine tS ?_
  refine tS ?_
  refine tR fun _ _ _ => ?_
  refine pV ?_
  refine sV (rLen rfl rfl) ?_
  refine pV ?_
  refine tB ?_
  refine tr_loop2 (fun (i : Int) (o : List Int) => [(9, .slice A1 (max n k) (max n k)), (34, .slice B k d), (35, .int .i64 k), (36, .int .i64 i), (0, .pointer (some g.p)), (2, .int .i64 x), (8, .slice none 0 0)]) (fun (i : Int) (o : List Int) => [ow A1 3 (max n k) (ints o), gfR g, ro A (ints a), ro B (ints b)]) (fun (i : Int) (o : List Int) => (0 ≤ i ∧ i ≤ k) ∧ (o.length = max n k ∧ AllIn (pw p m) o) ∧ ∀ j : Nat, (el (o.getD j 0) : El p m mod) = el (a.getD j 0) + if (j : Int) < i then el x * el (b.getD j 0) else 0) (fun (i : Int) (o : List Int) => (k - i).toNat) (0) (o) ⟨rfl, rfl, rfl, rfl, rfl, rfl, rfl, trivial⟩ (by first | exact cs _ _ | exact CSub.refl _) (⟨⟨by omega, by omega⟩, ⟨hol, hoi⟩, fun j => by
   rw [ho j, if_neg (show ¬ ((j : Int) < 0) by omega), Rg.add_zero]
   by_cases h : (j : Int) < i
   ·rw [if_pos h, el_of]
   ·rw [if_neg h, getD_out (l := a) (by omega)]⟩) (fun i o hI => ?_)
  obtain ⟨⟨hi0, hi1⟩, ⟨hol, hoi⟩, ho⟩ := hI
  refine tS ?_
  refine tR fun _ _ _ => ?_
  refine pV ?_
  refine tS ?_
  refine tC rfl (fun h8 => ?_) (fun h8 => ?_)
  ·try simp only [zbA] at h8
   refine tK ?_
   refine tS ?_
   refine tB ?_
   refine tS ?_
   refine tR fun _ _ _ => ?_
   refine pV ?_
   refine sV (rIdxI rfl rfl rfl (by omega) (by omega) (by omega)) ?_
   refine sV (rLdI rfl rfl (by omega)) ?_
   iterate 2 refine pV ?_
   refine tr_draw [0, 1, 2, 3, 4, 5, 6, 7, 8, 9, 10, 11, 12] [13] mixed (by kernel_rfl) fun _ _ _ => ?_
   iterate 5 refine pV ?_
   refine sV (rIdxI rfl rfl rfl (by omega) (by omega) (by omega)) ?_
   refine sV (rLdI rfl rfl (by omega)) ?_
   iterate 3 refine pV ?_
   refine eV (eCallV rfl rfl rfl (gf_MulE g hg _ _) ⟨rfl, rfl, rfl, trivial⟩ ?_)
   refine eV (eCallV rfl rfl rfl (gf_AddE g hg _ _) ⟨rfl, rfl, rfl, trivial⟩ ?_)
   refine sV (rIdxI rfl rfl rfl (by omega) (by omega) (by omega)) ?_
   refine eV (eStI rfl rfl rfl rfl (by omega) ?_)
   refine tR fun _ _ _ => ?_
   refine sV (rAdd rfl rfl rfl (by omega) (by omega)) ?_
   refine pV ?_
   refine ⟨i + 1, o.set i.toNat (el (o.getD i.toNat 0) + el (el x * el (b.getD i.toNat 0) : El p m mod).1 : El p m mod).1, ⟨rfl, rfl, rfl, rfl, rfl, rfl, rfl, trivial⟩, by first | exact cs _ _ | exact CSub.refl _, ?_⟩
   refine ⟨⟨⟨by omega, by omega⟩, ⟨by simpa using hol, hoi.set (El.bd _) _⟩, fun j => ?_⟩, by omega⟩
   rw [getD_set]
   by_cases he : i.toNat = j
   ·subst he; rw [if_pos ⟨rfl, by omega⟩, if_pos (by omega), el_of, el_of, ho, if_neg (by omega), Rg.add_zero]
   ·rw [if_neg (fun e => he e.1), ho j]
    by_cases h : (j : Int) < i
    ·rw [if_pos h, if_pos (by omega)]
    ·rw [if_neg h, if_neg (by omega)]
  ·try simp only [zbA] at h8
   refine tE ?_
   refine tS ?_
   refine tR fun _ _ _ => ?_
   refine pV ?_
   refine eV (eCallV rfl rfl rfl (poly_trim _ _ _ o (by omega) (by omega) (by omega)) ⟨rfl, trivial⟩ ?_)
   refine pV ?_
   have hp : (pol o : Po (El p m mod)) = pol a + Po.C (el x) * pol b := Po.ext fun j => by
    rw [Po.cf_add, Po.cf_C_mul, cf_pol, cf_pol, cf_pol, ho j]
    by_cases h : (j : Int) < i
    ·rw [if_pos h]
    ·rw [if_neg h, getD_out (l := b) (by omega), el_zero, Rg.mul_zero]
   rw [← hp, il_trim hoi]
   exact tr_ret ⟨trivial, _, _, rfl, ⟨_, rfl, A1, max n k, rfl, rfl⟩, (cs _ [ow A1 3 (max n k) (ints o)]).trans (shrink_trim _ _), trivial, trivial⟩
theorem poly_Sub_ent : Enters Try.prog 35 := enters_of Try.func35 (by kernel_rfl) (by kernel_rfl)
theorem poly_Sub (g : GfM) {p m : Int} {mod : List Int} [hF : IsF p m mod] (hg : GOk g p m mod) (A : Option Addr) (n c : Nat) (a : List Int) (hn : n = a.length) (ha9 : a.length ≤ 1000000) (B : Option Addr) (k d : Nat) (b : List Int) (hk : k = b.length) (hb9 : b.length ≤ 1000000) :
  Pure Try.prog 35 #[.pointer (some g.p), .slice A n c, .slice B k d] [gfR g, ro A (ints a), ro B (ints b)] (one (fun v ch => ∃ B cap, v = .slice B (il ((pol a : Po (El p m mod)) - (pol b : Po (El p m mod)))).length cap ∧ ch = ow B 3 cap (ints (il ((pol a : Po (El p m mod)) - (pol b : Po (El p m mod))))))) := by
 refine pure_of (args := [.pointer (some g.p), .slice A n c, .slice B k d]) 13 Try.func35 rfl rfl rfl poly_Sub_ent ⟨id, id, id, trivial⟩ (fun w0 => ?_)
 refine tS ?_
 refine tR fun _ _ _ => ?_
 refine pV ?_
 refine tS ?_
 refine tR fun _ _ _ => ?_
 iterate 3 refine pV ?_
 refine eV (eCallV rfl rfl rfl (gf_NegE g hg _) ⟨rfl, rfl, trivial⟩ ?_)
 refine pV ?_
 refine eV (eCall1 rfl rfl rfl (poly_combine g hg A n c a hn ha9 (-(el 1 : El p m mod)).1 B k d b hk hb9) ⟨rfl, rfl, rfl, rfl, trivial⟩ ?_)
 rintro _ _ ⟨Br, cr, rfl, rfl⟩
 refine pV ?_
 have hp : (pol a : Po (El p m mod)) + Po.C (el (-(el 1 : El p m mod)).1) * pol b = pol a - pol b := by rw [C_neg_one]; rfl
 rw [hp]
 exact tr_ret ⟨trivial, _, _, rfl, ⟨_, rfl, Br, cr, rfl, rfl⟩, cs _ _, trivial, trivial⟩
theorem poly_product_ent : Enters Try.prog 93 := enters_of Try.func93 (by kernel_rfl) (by kernel_rfl)
theorem poly_product (g : GfM) {p m : Int} {mod : List Int} [hF : IsF p m mod] (hg : GOk g p m mod) (A : Option Addr) (n c : Nat) (a : List Int) (hn : n = a.length) (ha9 : a.length ≤ 1000000) (B : Option Addr) (k d : Nat) (b : List Int) (hk : k = b.length) (hb9 : b.length ≤ 1000000) :
  Pure Try.prog 93 #[.pointer (some g.p), .slice A n c, .slice B k d] [gfR g, ro A (ints a), ro B (ints b)] (one (fun v ch => ∃ B cap, v = .slice B (il ((pol a : Po (El p m mod)) * (pol b : Po (El p m mod)))).length cap ∧ ch = ow B 3 cap (ints (il ((pol a : Po (El p m mod)) * (pol b : Po (El p m mod))))))) := by
 have hq2 := hF.q2
 have hla := il_le (p := p) (m := m) (mod := mod) a
 have hlb := il_le (p := p) (m := m) (mod := mod) b
 refine pure_of (args := [.pointer (some g.p), .slice A n c, .slice B k d]) 67 Try.func93 rfl rfl rfl poly_product_ent ⟨id, id, id, trivial⟩ (fun w0 => ?_)
 refine tS ?_
 refine tR fun _ _ _ => ?_
 refine pV ?_
 refine tS ?_
 refine tR fun _ _ _ => ?_
 iterate 2 refine pV ?_
 refine eV (eCall1 rfl rfl rfl (poly_CanonE g hg A n c a hn (by omega)) ⟨rfl, rfl, trivial⟩ ?_)
 rintro _ _ ⟨B1, c1, rfl, hcap1, rfl⟩
 iterate 2 refine pV ?_
 refine eV (eCall1 rfl rfl rfl (poly_CanonE g hg B k d b hk (by omega)) ⟨rfl, rfl, trivial⟩ ?_)
 rintro _ _ ⟨B1a, c1a, rfl, hcap1a, rfl⟩
 iterate 2 refine pV ?_
 refine tS ?_
 refine tS ?_
 refine tR fun _ _ _ => ?_
 refine pV ?_
 refine sV (rLen rfl rfl) ?_
 iterate 2 refine pV ?_
 refine stg rfl rfl rfl rfl rfl (fun hb => by (have hq := hb; try simp only [zbA] at hq); exact rMove rfl rfl) ?_
 refine stg rfl rfl rfl rfl rfl (fun hb => by (have hq := hb; try simp only [zbA] at hq); exact rLen rfl (evg rfl hb)) ?_
 refine stg rfl rfl rfl rfl rfl (fun hb => by (have hq := hb; try simp only [zbA] at hq); exact rEql rfl (evg rfl hb) rfl) ?_
 refine sV (rOrB rfl rfl rfl rfl) ?_
 refine tC rfl (fun h2 => ?_) (fun h2 => ?_)
 ·try simp only [zbA] at h2
  refine tS ?_
  refine tr_nilI 3 ?_
  refine tR fun _ _ _ => ?_
  refine pV ?_
  have h0 : (pol a : Po (El p m mod)) * (pol b : Po (El p m mod)) = 0 := by
   rcases h2 with h | h
   ·rw [Po.eq_zero_of_len (f := (pol a : Po (El p m mod))) (by rw [← il_length]; omega), Rg.zero_mul]
   ·rw [Po.eq_zero_of_len (f := (pol b : Po (El p m mod))) (by rw [← il_length]; omega), Rg.mul_zero]
  rw [h0, il_zero]
  exact tr_ret ⟨trivial, _, _, rfl, ⟨_, rfl, none, 0, rfl, rfl⟩, cs _ _, trivial, trivial⟩
 ·try simp only [zbA] at h2
  refine tK ?_
  refine tS ?_
  refine tR fun _ _ _ => ?_
  refine pV ?_
  refine sV (rLen rfl rfl) ?_
  refine pV ?_
  refine sV (rLen rfl rfl) ?_
  refine sV (rAdd rfl rfl rfl (by omega) (by omega)) ?_
  refine sV (rSub rfl rfl rfl (by omega) (by omega)) ?_
  refine eV (eMakeI rfl rfl rfl rfl rfl (by omega) (by omega) (by omega) (fun A4 => ?_))
  refine pV ?_
  generalize hN : (((il (pol a : Po (El p m mod))).length : Int) + (il (pol b : Po (El p m mod))).length - 1).toNat = N
  refine tS ?_
  refine tS ?_
  refine tR fun _ _ _ => ?_
  refine pV ?_
  refine sV (rLen rfl rfl) ?_
  refine pV ?_
  refine tB ?_
  refine tr_loop2 (fun (i : Int) (o : List Int) => [(7, .slice A4 N N), (1, .slice B1 (il (pol a : Po (El p m mod))).length c1), (2, .slice B1a (il (pol b : Po (El p m mod))).length c1a), (33, .slice B1 (il (pol a : Po (El p m mod))).length c1), (34, .int .i64 (il (pol a : Po (El p m mod))).length), (35, .int .i64 i), (0, .pointer (some g.p)), (6, .slice none 0 0)]) (fun (i : Int) (o : List Int) => [ow A4 3 N (ints o), ow B1a 3 c1a (ints (il (pol b : Po (El p m mod)))), ow B1 3 c1 (ints (il (pol a : Po (El p m mod)))), gfR g, ro A (ints a), ro B (ints b)]) (fun (i : Int) (o : List Int) => (0 ≤ i ∧ i ≤ (il (pol a : Po (El p m mod))).length) ∧ (o.length = N ∧ AllIn (pw p m) o) ∧ (pol o : Po (El p m mod)) = pol ((il (pol a : Po (El p m mod))).take i.toNat) * (pol b : Po (El p m mod))) (fun (i : Int) (o : List Int) => (((il (pol a : Po (El p m mod))).length : Int) - i).toNat) (0) (List.replicate N 0) ⟨rfl, rfl, rfl, rfl, rfl, rfl, rfl, rfl, trivial⟩ (by first | exact cs _ _ | exact CSub.refl _) (⟨⟨by omega, by omega⟩, ⟨by simp, allIn_rep (by omega) _⟩, by rw [pol_rep, Int.toNat_zero, pol_take_zero]; grind⟩) (fun i o hI => ?_)
  obtain ⟨⟨hi0, hi1⟩, ⟨hol, hoi⟩, ho⟩ := hI
  refine tS ?_
  refine tR fun _ _ _ => ?_
  refine pV ?_
  refine tS ?_
  refine tC rfl (fun h6 => ?_) (fun h6 => ?_)
  ·try simp only [zbA] at h6
   refine tK ?_
   refine tS ?_
   refine tB ?_
   refine tS ?_
   refine tR fun _ _ _ => ?_
   refine pV ?_
   refine sV (rIdxI rfl rfl rfl (by omega) (by omega) (by omega)) ?_
   refine sV (rLdI rfl rfl (by omega)) ?_
   iterate 2 refine pV ?_
   refine tS ?_
   refine tR fun _ _ _ => ?_
   refine pV ?_
   refine sV (rLen rfl rfl) ?_
   refine pV ?_
   refine tB ?_
   refine tr_loop2 (fun (j : Int) (o2 : List Int) => [(7, .slice A4 N N), (1, .slice B1 (il (pol a : Po (El p m mod))).length c1), (2, .slice B1a (il (pol b : Po (El p m mod))).length c1a), (40, .slice B1a (il (pol b : Po (El p m mod))).length c1a), (41, .int .i64 (il (pol b : Po (El p m mod))).length), (42, .int .i64 j), (9, .int .i64 ((il (pol a : Po (El p m mod))).getD i.toNat 0)), (0, .pointer (some g.p)), (6, .slice none 0 0), (8, .int .i64 i), (33, .slice B1 (il (pol a : Po (El p m mod))).length c1), (34, .int .i64 (il (pol a : Po (El p m mod))).length), (35, .int .i64 i), (37, .int .i64 i)]) (fun (j : Int) (o2 : List Int) => [ow A4 3 N (ints o2), ow B1a 3 c1a (ints (il (pol b : Po (El p m mod)))), ow B1 3 c1 (ints (il (pol a : Po (El p m mod)))), gfR g, ro A (ints a), ro B (ints b)]) (fun (j : Int) (o2 : List Int) => (0 ≤ j ∧ j ≤ (il (pol b : Po (El p m mod))).length) ∧ (o2.length = N ∧ AllIn (pw p m) o2) ∧ (pol o2 : Po (El p m mod)) = pol ((il (pol a : Po (El p m mod))).take i.toNat) * (pol b : Po (El p m mod)) + Po.mn (el ((il (pol a : Po (El p m mod))).getD i.toNat 0)) i.toNat * pol ((il (pol b : Po (El p m mod))).take j.toNat)) (fun (j : Int) (o2 : List Int) => (((il (pol b : Po (El p m mod))).length : Int) - j).toNat) (0) (o) ⟨rfl, rfl, rfl, rfl, rfl, rfl, rfl, rfl, rfl, rfl, rfl, rfl, rfl, rfl, trivial⟩ (by first | exact cs _ _ | exact CSub.refl _) (⟨⟨by omega, by omega⟩, ⟨hol, hoi⟩, by rw [ho, Int.toNat_zero, pol_take_zero]; grind⟩) (fun j o2 hI => ?_)
   obtain ⟨⟨hj0, hj1⟩, ⟨ho2l, ho2i⟩, ho2⟩ := hI
   refine tS ?_
   refine tR fun _ _ _ => ?_
   refine pV ?_
   refine tS ?_
   refine tC rfl (fun h9 => ?_) (fun h9 => ?_)
   ·try simp only [zbA] at h9
    refine tK ?_
    refine tS ?_
    refine tB ?_
    refine tS ?_
    refine tR fun _ _ _ => ?_
    refine pV ?_
    refine sV (rIdxI rfl rfl rfl (by omega) (by omega) (by omega)) ?_
    refine sV (rLdI rfl rfl (by omega)) ?_
    iterate 2 refine pV ?_
    refine tr_draw [0, 1, 2, 3, 4, 5, 6, 7, 8, 9, 10, 11, 12, 13, 14, 15, 16] [17] mixed (by kernel_rfl) fun _ _ _ => ?_
    iterate 3 refine pV ?_
    refine sV (rAdd rfl rfl rfl (by omega) (by omega)) ?_
    iterate 4 refine pV ?_
    refine sV (rAdd rfl rfl rfl (by omega) (by omega)) ?_
    refine sV (rIdxI rfl rfl rfl (by omega) (by omega) (by omega)) ?_
    refine sV (rLdI rfl rfl (by omega)) ?_
    iterate 3 refine pV ?_
    refine eV (eCallV rfl rfl rfl (gf_MulE g hg _ _) ⟨rfl, rfl, rfl, trivial⟩ ?_)
    refine eV (eCallV rfl rfl rfl (gf_AddE g hg _ _) ⟨rfl, rfl, rfl, trivial⟩ ?_)
    refine sV (rIdxI rfl rfl rfl (by omega) (by omega) (by omega)) ?_
    refine eV (eStI rfl rfl rfl rfl (by omega) ?_)
    refine tR fun _ _ _ => ?_
    refine sV (rAdd rfl rfl rfl (by omega) (by omega)) ?_
    refine pV ?_
    refine ⟨j + 1, o2.set (i + j).toNat (el (o2.getD (i + j).toNat 0) + el ((el ((il (pol a : Po (El p m mod))).getD i.toNat 0) * el ((il (pol b : Po (El p m mod))).getD j.toNat 0) : El p m mod)).1 : El p m mod).1, ⟨rfl, rfl, rfl, rfl, rfl, rfl, rfl, rfl, rfl, rfl, rfl, rfl, rfl, rfl, trivial⟩, by first | exact cs _ _ | exact CSub.refl _, ?_⟩
    refine ⟨⟨⟨by omega, by omega⟩, ⟨by simpa using ho2l, ho2i.set (El.bd _) _⟩, ?_⟩, by omega⟩
    rw [pol_set_add (d := (el ((il (pol a : Po (El p m mod))).getD i.toNat 0) * el ((il (pol b : Po (El p m mod))).getD j.toNat 0) : El p m mod)) o2 (by omega) (by rw [el_of, el_of]), ho2, show (j + 1).toNat = j.toNat + 1 by omega, pol_take_succ, show (i + j).toNat = i.toNat + j.toNat by omega]
    have e1 := Po.mn_mul (el ((il (pol a : Po (El p m mod))).getD i.toNat 0) : El p m mod) (el ((il (pol b : Po (El p m mod))).getD j.toNat 0)) i.toNat j.toNat
    grind
   ·try simp only [zbA] at h9
    refine tE ?_
    refine tR fun _ _ _ => ?_
    refine sV (rAdd rfl rfl rfl (by omega) (by omega)) ?_
    refine pV ?_
    refine ⟨i + 1, o2, ⟨rfl, rfl, rfl, rfl, rfl, rfl, rfl, rfl, trivial⟩, by first | exact cs _ _ | exact CSub.refl _, ?_⟩
    have hjn : j = (il (pol b : Po (El p m mod))).length := by omega
    rw [hjn, Int.toNat_natCast, List.take_length, pol_il] at ho2
    refine ⟨⟨⟨by omega, by omega⟩, ⟨ho2l, ho2i⟩, ?_⟩, by omega⟩
    rw [ho2, show (i + 1).toNat = i.toNat + 1 by omega, pol_take_succ]
    grind
  ·try simp only [zbA] at h6
   refine tE ?_
   refine tS ?_
   refine tR fun _ _ _ => ?_
   iterate 2 refine pV ?_
   have hin : i = (il (pol a : Po (El p m mod))).length := by omega
   rw [hin, Int.toNat_natCast, List.take_length, pol_il] at ho
   have ha0 : (pol a : Po (El p m mod)) ≠ 0 := Po.len_pos_iff.1 (by rw [← il_length]; omega)
   have hb0 : (pol b : Po (El p m mod)) ≠ 0 := Po.len_pos_iff.1 (by rw [← il_length]; omega)
   have hlm := Po.len_mul ha0 hb0
   rw [← il_length, ← il_length, ← il_length] at hlm
   have hoo : o = il ((pol a : Po (El p m mod)) * (pol b : Po (El p m mod))) := by
    rw [← ho, il_self hoi (.inr ?_)]
    have h1 : o.length = Po.len (pol o : Po (El p m mod)) := by rw [ho, ← il_length]; omega
    have h2 : 0 < o.length := by omega
    have h3 := Po.lead_ne (f := (pol o : Po (El p m mod))) (n := o.length - 1) (by omega)
    rw [cf_pol] at h3
    exact fun e => h3 (by rw [e, el_zero])
   have hNN : N = (il ((pol a : Po (El p m mod)) * (pol b : Po (El p m mod)))).length := by omega
   rw [hoo]
   exact tr_ret ⟨trivial, _, _, rfl, ⟨_, rfl, A4, N, by rw [← hNN], rfl⟩, cs _ _, trivial, trivial⟩
section
end
end Go.Proofs.Ytdkahdehodopoaa

set_option maxRecDepth 100000
namespace Go.Proofs.Ytdkahdehodopoaa
open Go.RowKit
end Go.Proofs.Ytdkahdehodopoaa

namespace Go.Proofs.Ytdkahdehodopoaa
open Rg
namespace Vc
end Vc
end Go.Proofs.Ytdkahdehodopoaa

namespace Go.Proofs.Ytdkahdehodopoaa
end Go.Proofs.Ytdkahdehodopoaa

namespace Go.Proofs.Ytdkahdehodopoaa
namespace Po
variable {K : Type} [Fd K]
structure Ir (P : Po K) : Prop where
 two : 2 ≤ len P
 irr : ∀ d, d ∣ P → len d = 1 ∨ len d = len P
theorem Ir.ne {P : Po K} (h : Ir P) : P ≠ 0 := len_pos_iff.1 (by have := h.two; omega)
theorem one_len_dvd {d : Po K} (h : len d = 1) (f : Po K) : d ∣ f := by
 have h1 := len_le_one (f := d) (by omega)
 have h2 : cf d 0 ≠ 0 := lead_ne (n := 0) h
 rw [h1]; exact C_dvd h2 f
theorem dvd_of_len {f g : Po K} (h : f ∣ g) (hg : g ≠ 0) (hl : len g ≤ len f) : g ∣ f := by
 obtain ⟨c, rfl⟩ := h
 have hf : f ≠ 0 := fun e => hg (by rw [e, Rg.zero_mul])
 have hc : c ≠ 0 := fun e => hg (by rw [e, Rg.mul_zero])
 have h1 := len_mul hf hc
 have h2 := len_pos hf
 have h3 := len_pos hc
 obtain ⟨e, he⟩ := one_len_dvd (show len c = 1 by omega) 1
 exact ⟨e, by rw [Rg.mul_assoc, ← he, Rg.mul_one]⟩
theorem monic_one {f : Po K} (h : lead f = 1) (hl : len f ≤ 1) : f = 1 := by
 have h1 : f ≠ 0 := fun e => by
  rw [e] at h
  exact Fd.one_ne (K := K) (by rw [← h]; rfl)
 have h2 : len f = 1 := by have := len_pos h1; omega
 rw [len_le_one hl]
 unfold lead at h
 rw [h2] at h
 rw [h, C_one]
theorem gcd_one_of {f g : Po K} (hf : f ≠ 0) (hl : len (gcd f g) ≤ 1) : gcd f g = 1 := monic_one (gcd_monic (.inl hf)) hl
theorem Ir.gcd {P : Po K} (h : Ir P) (f : Po K) : Po.gcd P f = 1 ∨ P ∣ f := by
 have hg := gcd_is P f
 rcases h.irr _ hg.left with h1 | h1
 ·exact .inl (gcd_one_of h.ne (by omega))
 ·exact .inr (dvd_trans (dvd_of_len hg.left h.ne (by omega)) hg.right)
theorem cop_dvd {a b c : Po K} (h : Po.gcd a b = 1) (hd : a ∣ b * c) : a ∣ c := by
 obtain ⟨u, v, e⟩ := (gcd_is a b).bez
 rw [h] at e
 have : c = u * a * c + v * (b * c) := by
  have h2 : c = (u * a + v * b) * c := by rw [e, Rg.one_mul]
  rw [h2]; grind
 rw [this]
 exact dvd_add ⟨u * c, by grind⟩ (dvd_mul_ofL hd v)
theorem Ir.prime {P f g : Po K} (h : Ir P) (hd : P ∣ f * g) : P ∣ f ∨ P ∣ g := by
 rcases h.gcd f with h1 | h1
 ·exact .inr (cop_dvd h1 hd)
 ·exact .inl h1
theorem Ir.not_one {P f : Po K} (h : Ir P) (hl : len f = 1) : ¬ P ∣ f := fun hd => by
 have := dvd_len hd (len_pos_iff.1 (by omega))
 have := h.two
 omega
theorem Ir.assoc {P Q : Po K} (hP : Ir P) (hQ : Ir Q) (hd : P ∣ Q) : Q ∣ P := by
 rcases hQ.irr P hd with h | h
 ·have := hP.two; omega
 ·exact dvd_of_len hd hQ.ne (by omega)
theorem Ir.one {P Q : Po K} (hP : Ir P) (hQ : Ir Q) (h1 : lead P = 1) (h2 : lead Q = 1) (hd : P ∣ Q) : P = Q := monic_eq hd (hP.assoc hQ hd) h1 h2
theorem Ir.mon {P : Po K} (h : Ir P) : Ir (mon P) ∧ lead (mon P) = 1 := by
 refine ⟨⟨by rw [mon_len]; exact h.two, fun d hd => ?_⟩, mon_lead h.ne⟩
 rw [mon_len]; exact h.irr d (dvd_trans hd (mon_dvd P))
theorem ir_ex {f : Po K} (h : 2 ≤ len f) : ∃ P, Ir P ∧ lead P = 1 ∧ P ∣ f := by
 have hf : f ≠ 0 := len_pos_iff.1 (by omega)
 obtain ⟨n, ⟨P, hP, hl, hd⟩, hmin⟩ := nat_least (P := fun n => ∃ P : Po K, 2 ≤ len P ∧ len P = n ∧ P ∣ f) ⟨_, f, h, rfl, dvd_refl f⟩
 have hP0 : P ≠ 0 := len_pos_iff.1 (by omega)
 have hI : Ir P := ⟨hP, fun d hdP => by
  have hd0 : d ≠ 0 := fun e => hP0 (zero_dvd (e ▸ hdP))
  have h1 := dvd_len hdP hP0
  have h2 := len_pos hd0
  by_cases h3 : len d = 1
  ·exact .inl h3
  ·by_cases h4 : len d = len P
   ·exact .inr h4
   ·exact absurd ⟨d, by omega, rfl, dvd_trans hdP hd⟩ (hmin (len d) (by omega))⟩
 exact ⟨_, hI.mon.1, hI.mon.2, dvd_trans (mon_dvd P) hd⟩
theorem ir_of_no {f : Po K} (h : 2 ≤ len f) (hno : ∀ P, Ir P → P ∣ f → len P = len f) : Ir f := by
 obtain ⟨P, hP, _, hd⟩ := ir_ex h
 have h1 := hno P hP hd
 have hf : f ≠ 0 := len_pos_iff.1 (by omega)
 have h2 := dvd_of_len hd hf (by omega)
 exact ⟨h, fun d hdf => by
  have := hP.irr d (dvd_trans hdf h2)
  omega⟩
theorem pow_ne0 {f : Po K} (h : f ≠ 0) : ∀ n, Rg.pow f n ≠ 0
 | 0 => one_ne
 | n + 1 => mul_ne (pow_ne0 h n) h
theorem pow_dvd (f : Po K) {m n : Nat} (h : m ≤ n) : Rg.pow f m ∣ Rg.pow f n := by
 obtain ⟨k, rfl⟩ := Nat.le.dest h
 exact ⟨Rg.pow f k, Rg.pow_add f m k⟩
theorem mul_dvd_mul {f g : Po K} (h : f ∣ g) (k : Po K) : k * f ∣ k * g := by
 obtain ⟨c, rfl⟩ := h; exact ⟨c, by grind⟩
theorem mul_dvd_cancel {f g k : Po K} (hk : k ≠ 0) (h : k * f ∣ k * g) : f ∣ g := by
 obtain ⟨c, e⟩ := h
 exact ⟨c, mul_cancel hk (by rw [e]; grind)⟩
theorem len_pow_ge {f : Po K} (h : 2 ≤ len f) : ∀ n, n < len (Rg.pow f n)
 | 0 => by rw [Rg.pow_zero, len_one]; omega
 | n + 1 => by
  have h0 : f ≠ 0 := len_pos_iff.1 (by omega)
  have := len_pow_ge h n
  rw [Rg.pow_succ, len_mul (pow_ne0 h0 n) h0]; omega
theorem Ir.pow_cop {P f : Po K} (h : Ir P) (hn : ¬ P ∣ f) : ∀ n g, Rg.pow P n ∣ f * g → Rg.pow P n ∣ g
 | 0, g, _ => one_dvd g
 | n + 1, g, hd => by
  have h1 := h.pow_cop hn n g (dvd_trans (pow_dvd P (Nat.le_succ n)) hd)
  obtain ⟨e, rfl⟩ := h1
  rw [Rg.pow_succ] at hd ⊢
  have h2 : Rg.pow P n * P ∣ Rg.pow P n * (f * e) := by
   rw [show Rg.pow P n * (f * e) = f * (Rg.pow P n * e) by grind]; exact hd
  have h3 := mul_dvd_cancel (pow_ne0 h.ne n) h2
  exact mul_dvd_mul (h.prime h3 |>.resolve_left hn) _
theorem dvd_of_pows : ∀ (n : Nat) (f g : Po K), len f ≤ n → f ≠ 0 → (∀ P k, Ir P → lead P = 1 → Rg.pow P k ∣ f → Rg.pow P k ∣ g) → f ∣ g
 | 0, f, g, hn, hf, _ => absurd (eq_zero_of_len (by omega)) hf
 | n + 1, f, g, hn, hf, h => by
  by_cases h2 : len f < 2
  ·have := len_pos hf
   exact one_len_dvd (by omega) g
  ·obtain ⟨P, hP, hl, hd⟩ := ir_ex (f := f) (by omega)
   have hPg : P ∣ g := by
    have := h P 1 hP hl (by rw [Rg.pow_one]; exact hd)
    rwa [Rg.pow_one] at this
   obtain ⟨f', rfl⟩ := hd
   obtain ⟨g', rfl⟩ := hPg
   have hf' : f' ≠ 0 := fun e => hf (by rw [e, Rg.mul_zero])
   have hlen := len_mul hP.ne hf'
   have := hP.two
   refine mul_dvd_mul (dvd_of_pows n f' g' (by omega) hf' fun Q k hQ hlQ hd => ?_) P
   by_cases e : P = Q
   ·subst e
    have h1 := h P (k + 1) hP hl (by rw [Rg.pow_succ, Rg.mul_comm]; exact mul_dvd_mul hd P)
    rw [Rg.pow_succ, Rg.mul_comm] at h1
    exact mul_dvd_cancel hP.ne h1
   ·have h1 := h Q k hQ hlQ (dvd_mul_ofL hd P)
    exact hQ.pow_cop (fun hd' => e (hQ.one hP hlQ hl hd').symm) k g' h1
def Sf (f : Po K) : Prop := ∀ P, Ir P → ¬ P * P ∣ f
theorem Sf.dvd {f g : Po K} (h : Sf f) (hf : f ≠ 0) (hi : ∀ P, Ir P → lead P = 1 → P ∣ f → P ∣ g) : f ∣ g :=
 dvd_of_pows _ f g (Nat.le_refl _) hf fun P k hP hl hd => by
  match k with
  | 0 => exact one_dvd g
  | 1 => rw [Rg.pow_one] at hd ⊢; exact hi P hP hl hd
  | k + 2 =>
   have h2 : Rg.pow P 2 = P * P := by rw [Rg.pow_succ, Rg.pow_one]
   exact absurd (dvd_trans (h2 ▸ pow_dvd P (show 2 ≤ k + 2 by omega)) hd) (h P hP)
theorem Sf.eq {f g : Po K} (hf : Sf f) (hg : Sf g) (h1 : lead f = 1) (h2 : lead g = 1) (f0 : f ≠ 0) (g0 : g ≠ 0) (hi : ∀ P, Ir P → lead P = 1 → (P ∣ f ↔ P ∣ g)) : f = g :=
 monic_eq (hf.dvd f0 fun P hP hl hd => (hi P hP hl).1 hd) (hg.dvd g0 fun P hP hl hd => (hi P hP hl).2 hd) h1 h2
theorem Ir.sf {P : Po K} (h : Ir P) : Sf P := fun Q hQ hd => by
 have h1 := dvd_len hd h.ne
 rw [len_mul hQ.ne hQ.ne] at h1
 have h2 := hQ.two
 rcases h.irr Q (dvd_trans ⟨Q, rfl⟩ hd) with h3 | h3 <;> omega
theorem gcd_one_iff {f g : Po K} (hf : f ≠ 0) : Po.gcd f g = 1 ↔ ∀ P, Ir P → P ∣ f → ¬ P ∣ g := by
 constructor
 ·intro h P hP h1 h2
  have := (gcd_is f g).great h1 h2
  rw [h] at this
  exact hP.not_one len_one this
 ·intro h
  refine gcd_one_of hf (Nat.le_of_not_lt fun hlt => ?_)
  obtain ⟨P, hP, _, hd⟩ := ir_ex (f := Po.gcd f g) (by omega)
  exact h P hP (dvd_trans hd (gcd_is f g).left) (dvd_trans hd (gcd_is f g).right)
theorem Sf.mul {f g : Po K} (hf : Sf f) (hg : Sf g) (hc : ∀ P, Ir P → P ∣ f → ¬ P ∣ g) : Sf (f * g) := fun P hP hd => by
 have h1 : P ∣ f * g := dvd_trans ⟨P, rfl⟩ hd
 rw [show P * P = Rg.pow P 2 by rw [Rg.pow_succ, Rg.pow_one]] at hd
 have e2 : Rg.pow P 2 = P * P := by rw [Rg.pow_succ, Rg.pow_one]
 by_cases hPf : P ∣ f
 ·have := hP.pow_cop (hc P hP hPf) 2 f (by rw [Rg.mul_comm]; exact hd)
  rw [e2] at this
  exact hf P hP this
 ·have := hP.pow_cop hPf 2 g hd
  rw [e2] at this
  exact hg P hP this
end Po
end Go.Proofs.Ytdkahdehodopoaa

namespace Go.Proofs.Ytdkahdehodopoaa
def bin : Nat → Nat → Nat
 | _, 0 => 1
 | 0, _ + 1 => 0
 | n + 1, k + 1 => bin n k + bin n (k + 1)
theorem bin_zero (n : Nat) : bin n 0 = 1 := by cases n <;> rfl
theorem bin_gt : ∀ n k, n < k → bin n k = 0
 | 0, k + 1, _ => rfl
 | n + 1, k + 1, h => by rw [bin, bin_gt n k (by omega), bin_gt n (k + 1) (by omega)]
theorem bin_self : ∀ n, bin n n = 1
 | 0 => rfl
 | n + 1 => by rw [bin, bin_self n, bin_gt n (n + 1) (by omega)]
theorem bin_abs : ∀ n k, (k + 1) * bin (n + 1) (k + 1) = (n + 1) * bin n k
 | 0, 0 => rfl
 | 0, k + 1 => by rw [bin_gt (0 + 1) (k + 1 + 1) (by omega), bin_gt 0 (k + 1) (by omega), Nat.mul_zero, Nat.mul_zero]
 | n + 1, 0 => by
  have ih := bin_abs n 0
  have e : bin (n + 1 + 1) (0 + 1) = bin (n + 1) 0 + bin (n + 1) (0 + 1) := rfl
  rw [e, bin_zero]
  rw [bin_zero] at ih
  omega
 | n + 1, k + 1 => by
  have h1 := bin_abs n k
  have h2 := bin_abs n (k + 1)
  rw [bin, Nat.mul_add, h2]
  have e : bin (n + 1) (k + 1) = bin n k + bin n (k + 1) := rfl
  have h3 : (k + 1 + 1) * bin (n + 1) (k + 1) = (n + 1) * bin n k + bin (n + 1) (k + 1) := by rw [Nat.add_mul (k + 1) 1, h1, Nat.one_mul]
  rw [h3, e, Nat.add_mul (n + 1) 1, Nat.one_mul, Nat.mul_add]
  omega
end Go.Proofs.Ytdkahdehodopoaa

namespace Go.Proofs.Ytdkahdehodopoaa
theorem prime_dvd {p : Nat} (hp : 2 ≤ p) (hd : ∀ d, 2 ≤ d → d < p → ¬ d ∣ p) {a b : Nat} (ha : 0 < a) (hap : a < p) (h : p ∣ a * b) : p ∣ b := by
 have hg : Nat.gcd p a = 1 := by
  have h1 : Nat.gcd p a ∣ p := Nat.gcd_dvd_left p a
  have h2 : Nat.gcd p a ≤ a := Nat.gcd_le_right p ha
  have h3 : 0 < Nat.gcd p a := Nat.gcd_pos_of_pos_right p ha
  refine Classical.byContradiction fun hne => hd _ (by omega) (by omega) h1
 exact (Nat.Coprime.dvd_of_dvd_mul_left hg h)
theorem bin_prime {p : Nat} (hp : 2 ≤ p) (hd : ∀ d, 2 ≤ d → d < p → ¬ d ∣ p) {k : Nat} (h0 : 0 < k) (hk : k < p) : p ∣ bin p k := by
 obtain ⟨n, rfl⟩ : ∃ n, p = n + 1 := ⟨p - 1, by omega⟩
 obtain ⟨j, rfl⟩ : ∃ j, k = j + 1 := ⟨k - 1, by omega⟩
 exact prime_dvd hp hd (a := j + 1) (by omega) hk ⟨bin n j, bin_abs n j⟩
section
variable {R : Type} [Rg R]
theorem nc_mul' (a : Nat) : ∀ b : Nat, (Rg.nc (a * b) : R) = Rg.nc a * Rg.nc b
 | 0 => by rw [Nat.mul_zero]; exact (Rg.mul_zero (Rg.nc a : R)).symm
 | b + 1 => by rw [Nat.mul_succ, nc_add, Rg.nc_succ, nc_mul' a b, Rg.mul_add, Rg.mul_one]
theorem nc_dvd {p n : Nat} (h : (Rg.nc p : R) = 0) (hd : p ∣ n) : (Rg.nc n : R) = 0 := by
 obtain ⟨c, rfl⟩ := hd
 rw [nc_mul', h, Rg.zero_mul]
theorem nc_one' : (Rg.nc 1 : R) = 1 := rfl
def binT (x y : R) (n k : Nat) : R := Rg.nc (bin n k) * (Rg.pow x k * Rg.pow y (n - k))
theorem binom (x y : R) : ∀ n, Rg.pow (x + y) n = Rg.sm (n + 1) (binT x y n)
 | 0 => by
  rw [Rg.sm_succ, Rg.sm_zero, Rg.zero_add]
  show (1 : R) = 1 * (1 * 1)
  rw [Rg.one_mul, Rg.one_mul]
 | n + 1 => by
  rw [Rg.pow_succ, binom x y n, Rg.mul_add, Rg.sm_left (binT x y (n + 1))]
  have e1 : ∀ k, k < n + 1 → binT x y (n + 1) (k + 1) = binT x y n k * x + Rg.nc (bin n (k + 1)) * (Rg.pow x (k + 1) * Rg.pow y (n - k)) := fun k hk => by
   unfold binT
   rw [bin, nc_add, show n + 1 - (k + 1) = n - k by omega, Rg.pow_succ]
   grind
  rw [Rg.sm_congr e1, Rg.sm_add, Rg.sm_mulR]
  have e2 : Rg.sm (n + 1) (fun k => Rg.nc (bin n (k + 1)) * (Rg.pow x (k + 1) * Rg.pow y (n - k))) = Rg.sm n (fun k => binT x y n (k + 1) * y) := by
   rw [Rg.sm_succ, bin_gt n (n + 1) (by omega)]
   have hz : (Rg.nc 0 : R) = 0 := rfl
   rw [hz, Rg.zero_mul, Rg.add_zero]
   exact Rg.sm_congr fun k hk => by
    unfold binT
    have : Rg.pow y (n - k) = Rg.pow y (n - (k + 1)) * y := by rw [← Rg.pow_succ, show n - (k + 1) + 1 = n - k by omega]
    rw [this]; grind
  have e3 : binT x y (n + 1) 0 = binT x y n 0 * y := by
   unfold binT
   rw [bin_zero, bin_zero, Nat.sub_zero, Nat.sub_zero, Rg.pow_succ]; grind
  rw [e2, Rg.sm_mulR, e3, Rg.sm_left (binT x y n)]
  grind
theorem frobR {p : Nat} (hp : 2 ≤ p) (hd : ∀ d, 2 ≤ d → d < p → ¬ d ∣ p) (h0 : (Rg.nc p : R) = 0) (x y : R) : Rg.pow (x + y) p = Rg.pow x p + Rg.pow y p := by
 rw [binom, Rg.sm_succ]
 obtain ⟨n, rfl⟩ : ∃ n, p = n + 1 := ⟨p - 1, by omega⟩
 have h1 : Rg.sm (n + 1) (binT x y (n + 1)) = binT x y (n + 1) 0 := Rg.sm_one (k := 0) (by omega) fun i hi hne => by
  unfold binT
  rw [nc_dvd h0 (bin_prime hp hd (by omega) hi), Rg.zero_mul]
 rw [h1]
 unfold binT
 rw [bin_zero, bin_self, Nat.sub_self, Nat.sub_zero, nc_one', Rg.pow_zero, Rg.pow_zero, Rg.one_mul, Rg.one_mul, Rg.one_mul, Rg.mul_one, Rg.add_comm]
theorem frobRk {p : Nat} (hp : 2 ≤ p) (hd : ∀ d, 2 ≤ d → d < p → ¬ d ∣ p) (h0 : (Rg.nc p : R) = 0) (x y : R) : ∀ k, Rg.pow (x + y) (p ^ k) = Rg.pow x (p ^ k) + Rg.pow y (p ^ k)
 | 0 => by rw [Nat.pow_zero, Rg.pow_one, Rg.pow_one, Rg.pow_one]
 | k + 1 => by rw [Nat.pow_succ, Rg.pow_mul, Rg.pow_mul, Rg.pow_mul, frobRk hp hd h0 x y k, frobR hp hd h0]
end
section
variable {K : Type} [Fd K]
theorem nc_po (n : Nat) : (Rg.nc n : Po K) = Po.C (Rg.nc n) := by
 induction n with
 | zero => exact Po.C_zero.symm
 | succ n ih =>
  rw [Rg.nc_succ, Rg.nc_succ, ih]
  have : (1 : Po K) = Po.C 1 := Po.C_one.symm
  rw [this]; exact Po.mn_add _ _ 0
end
section
variable {p m : Int} {mod : List Int} [hF : IsF p m mod]
theorem nc_char : (Rg.nc p.toNat : El p m mod) = 0 := El.ext (by
 have hp := hF.out.1.1.p2
 rw [nc_val, Int.toNat_of_nonneg (by omega), Int.emod_self]; rfl)
theorem p_prime {p m : Int} {mod : List Int} (hF : IsF p m mod) : ∀ d, 2 ≤ d → d < p.toNat → ¬ d ∣ p.toNat := fun d h1 h2 hd => by
 have hp := hF.out.1.2
 have := hp.2 d (by omega) (by omega)
 apply this
 have h3 : ((d : Nat) : Int) ∣ (p.toNat : Int) := Int.natCast_dvd_natCast.2 hd
 rw [Int.toNat_of_nonneg (by omega)] at h3
 exact Int.emod_eq_zero_of_dvd h3
theorem nc_charP : (Rg.nc p.toNat : Po (El p m mod)) = 0 := by rw [nc_po, nc_char, Po.C_zero]
end
end Go.Proofs.Ytdkahdehodopoaa

namespace Go.Proofs.Ytdkahdehodopoaa
open Po
section
variable {K : Type} [Fd K]
class IrC (P : Po K) : Prop where
 out : Ir P
def Qt (P : Po K) : Type := { f : Po K // len f < len P }
namespace Qt
variable {P : Po K} [hP : IrC P]
noncomputable def mk (P : Po K) [hP : IrC P] (f : Po K) : Qt P := ⟨rem f P, rem_len f hP.out.ne⟩
theorem mk_eq {f g : Po K} : mk P f = mk P g ↔ P ∣ f - g :=
 ⟨fun h => (rem_eq_iff hP.out.ne).1 (congrArg Subtype.val h), fun h => Subtype.ext ((rem_eq_iff hP.out.ne).2 h)⟩
theorem mk_val (a : Qt P) : mk P a.1 = a := Subtype.ext (rem_small a.2)
noncomputable instance : Add (Qt P) := ⟨fun a b => mk P (a.1 + b.1)⟩
noncomputable instance : Mul (Qt P) := ⟨fun a b => mk P (a.1 * b.1)⟩
noncomputable instance : Neg (Qt P) := ⟨fun a => mk P (-a.1)⟩
noncomputable instance : Zero (Qt P) := ⟨mk P 0⟩
noncomputable instance : One (Qt P) := ⟨mk P 1⟩
theorem rem_dvd (f : Po K) : P ∣ f - (mk P f).1 := rem_sub_dvd f hP.out.ne
theorem mk_add (f g : Po K) : mk P f + mk P g = mk P (f + g) := mk_eq.2 (by
 obtain ⟨a, ha⟩ := rem_dvd (P := P) f
 obtain ⟨b, hb⟩ := rem_dvd (P := P) g
 exact ⟨-(a + b), by grind⟩)
theorem mk_mul (f g : Po K) : mk P f * mk P g = mk P (f * g) := mk_eq.2 (by
 obtain ⟨a, ha⟩ := rem_dvd (P := P) f
 obtain ⟨b, hb⟩ := rem_dvd (P := P) g
 exact ⟨-(a * g + (mk P f).1 * b), by grind⟩)
theorem mk_neg (f : Po K) : -mk P f = mk P (-f) := mk_eq.2 (by
 obtain ⟨a, ha⟩ := rem_dvd (P := P) f
 exact ⟨a, by grind⟩)
noncomputable instance : Rg (Qt P) where
 add_assoc a b c := by rw [← mk_val a, ← mk_val b, ← mk_val c, mk_add, mk_add, mk_add, mk_add, Rg.add_assoc]
 add_comm a b := by rw [← mk_val a, ← mk_val b, mk_add, mk_add, Rg.add_comm]
 zero_add a := by
  rw [← mk_val a]
  show mk P 0 + _ = _
  rw [mk_add, Rg.zero_add]
 neg_add a := by
  rw [← mk_val a, mk_neg, mk_add, Rg.neg_add]; rfl
 mul_assoc a b c := by rw [← mk_val a, ← mk_val b, ← mk_val c, mk_mul, mk_mul, mk_mul, mk_mul, Rg.mul_assoc]
 mul_comm a b := by rw [← mk_val a, ← mk_val b, mk_mul, mk_mul, Rg.mul_comm]
 one_mul a := by
  rw [← mk_val a]
  show mk P 1 * _ = _
  rw [mk_mul, Rg.one_mul]
 add_mul a b c := by rw [← mk_val a, ← mk_val b, ← mk_val c, mk_mul, mk_mul, mk_add, mk_add, mk_mul, Rg.add_mul]
theorem mk_zero : mk P 0 = 0 := rfl
theorem mk_one : mk P 1 = 1 := rfl
theorem mk_zero_iff {f : Po K} : mk P f = 0 ↔ P ∣ f := by
 rw [← mk_zero, mk_eq, Rg.sub_zero]
theorem mk_pow (f : Po K) : ∀ n, Rg.pow (mk P f) n = mk P (Rg.pow f n)
 | 0 => rfl
 | n + 1 => by rw [Rg.pow_succ, Rg.pow_succ, mk_pow f n, mk_mul]
theorem inv_ex (a : Qt P) (h : a ≠ 0) : ∃ b : Qt P, b * a = 1 := by
 rw [← mk_val a] at h ⊢
 have h1 : ¬ P ∣ a.1 := fun e => h (mk_zero_iff.2 e)
 have hg := (hP.out.gcd a.1).resolve_right h1
 obtain ⟨u, v, e⟩ := (gcd_is P a.1).bez
 refine ⟨mk P v, ?_⟩
 rw [mk_mul, ← mk_one, mk_eq]
 rw [hg] at e
 exact ⟨-u, by rw [← e]; grind⟩
open Classical in
noncomputable instance : Fd (Qt P) where
 inv a := if h : ∃ b : Qt P, b * a = 1 then Classical.choose h else 0
 inv_mul a h := by
  have he := inv_ex a h
  rw [dif_pos he]; exact Classical.choose_spec he
 one_ne e := by
  have : P ∣ 1 := mk_zero_iff.1 (e : mk P 1 = 0)
  exact hP.out.not_one len_one this
noncomputable instance : DecidableEq (Qt P) := Classical.typeDecidableEq _
theorem val_sub_X (n : Nat) (y : Qt P) : Po.val (mn 1 n - X : Po (Qt P)) y = Rg.pow y n - y := by rw [val_sub, val_mn, val_X, Rg.one_mul]
end Qt
structure FinL (al : List K) : Prop where
 nd : al.Nodup
 mem : ∀ a : K, a ∈ al
def pols (al : List K) : Nat → List (Po K)
 | 0 => [0]
 | n + 1 => (pols al n).flatMap fun f => al.map fun c => f + mn c n
theorem pols_len (al : List K) : ∀ n, (pols al n).length = al.length ^ n
 | 0 => rfl
 | n + 1 => by
  rw [pols, List.length_flatMap]
  have : (pols al n).map (fun f => (al.map fun c => f + mn c n).length) = List.replicate (pols al n).length al.length := by
   rw [List.eq_replicate_iff]
   refine ⟨by rw [List.length_map], fun b hb => ?_⟩
   obtain ⟨f, _, rfl⟩ := List.mem_map.1 hb
   rw [List.length_map]
  rw [this, List.sum_replicate_nat, pols_len al n, Nat.pow_succ]
theorem mem_pols {al : List K} (h : FinL al) : ∀ n (f : Po K), f ∈ pols al n ↔ Sh f n
 | 0, f => by
  rw [pols, List.mem_singleton]
  exact ⟨fun e j _ => by rw [e]; rfl, fun hs => Po.ext fun j => hs j (Nat.zero_le _)⟩
 | n + 1, f => by
  rw [pols, List.mem_flatMap]
  constructor
  ·rintro ⟨g, hg, hf⟩
   obtain ⟨c, _, rfl⟩ := List.mem_map.1 hf
   exact (((mem_pols h n g).1 hg).mono (Nat.le_succ n)).add (mn_sh c n)
  ·intro hs
   refine ⟨f - mn (cf f n) n, (mem_pols h n _).2 fun j hj => ?_, List.mem_map.2 ⟨cf f n, h.mem _, by rw [Rg.sub_add_cancel]⟩⟩
   rw [cf_sub, cf_mn]
   by_cases e : j = n
   ·rw [if_pos e, e, Rg.sub_self]
   ·rw [if_neg e, hs j (by omega), Rg.sub_self]
theorem pols_nodup {al : List K} (h : FinL al) : ∀ n, (pols al n).Nodup
 | 0 => List.pairwise_singleton ..
 | n + 1 => by
  rw [pols, List.Nodup, List.pairwise_flatMap]
  constructor
  ·intro f hf
   rw [List.pairwise_map]
   refine h.nd.imp fun {a b} hab e => hab ?_
   have := congrArg (fun g => cf g n) e
   simp only [cf_add, cf_mn, if_true] at this
   exact Rg.add_left_cancel this
  ·refine (pols_nodup h n).imp_of_mem fun {f g} hf hg hfg a ha b hb e => hfg ?_
   obtain ⟨c, _, rfl⟩ := List.mem_map.1 ha
   obtain ⟨d, _, rfl⟩ := List.mem_map.1 hb
   have sf := (mem_pols h n f).1 hf
   have sg := (mem_pols h n g).1 hg
   refine Po.ext fun j => ?_
   by_cases hj : j < n
   ·have := congrArg (fun g => cf g j) e
    simp only [cf_add, cf_mn, if_neg (show ¬ j = n by omega), Rg.add_zero] at this
    exact this
   ·rw [sf j (by omega), sg j (by omega)]
noncomputable def qts (al : List K) (P : Po K) [hP : IrC P] : List (Qt P) := (pols al (len P - 1)).map (Qt.mk P)
theorem qts_len (al : List K) (P : Po K) [hP : IrC P] : (qts al P).length = al.length ^ (len P - 1) := by rw [qts, List.length_map, pols_len]
theorem qts_mem {al : List K} (h : FinL al) {P : Po K} [hP : IrC P] (a : Qt P) : a ∈ qts al P := by
 refine List.mem_map.2 ⟨a.1, (mem_pols h _ _).2 fun j hj => cf_ge (by have := a.2; omega), Qt.mk_val a⟩
theorem qts_nodup {al : List K} (h : FinL al) {P : Po K} [hP : IrC P] : (qts al P).Nodup := by
 rw [qts, List.Nodup, List.pairwise_map]
 refine (pols_nodup h _).imp_of_mem fun {f g} hf hg hfg e => hfg ?_
 have sf := len_le ((mem_pols h _ f).1 hf)
 have sg := len_le ((mem_pols h _ g).1 hg)
 have h2 := hP.out.two
 have := congrArg Subtype.val e
 have e1 : (Qt.mk P f).1 = f := rem_small (by omega)
 have e2 : (Qt.mk P g).1 = g := rem_small (by omega)
 rw [e1, e2] at this
 exact this
theorem qt_pow {al : List K} (h : FinL al) {P : Po K} [hP : IrC P] (a : Qt P) : Rg.pow a (al.length ^ (len P - 1)) = a := by
 have hq : 0 < al.length := List.length_pos_of_mem (h.mem 0)
 have hN : 0 < al.length ^ (len P - 1) := Nat.pow_pos hq
 by_cases h0 : a = 0
 ·rw [h0]; exact Rg.zero_pow hN
 ·have hz : Fd.Nz (Qt P) ((qts al P).erase 0) := ⟨(qts_nodup h).erase 0, fun b => by
   rw [(qts_nodup h).mem_erase_iff]
   exact ⟨fun e => e.1, fun e => ⟨e, qts_mem h b⟩⟩⟩
  have h1 := hz.pow h0
  rw [List.length_erase_of_mem (qts_mem h 0), qts_len, Fd.pow_eq] at h1
  have e : al.length ^ (len P - 1) = (al.length ^ (len P - 1) - 1) + 1 := by omega
  rw [e, Rg.pow_succ, h1, Rg.one_mul]
theorem dvd_frob {al : List K} (h : FinL al) {P : Po K} (hP : Ir P) (f : Po K) : P ∣ Rg.pow f (al.length ^ (len P - 1)) - f := by
 haveI : IrC P := ⟨hP⟩
 have := qt_pow h (Qt.mk P f)
 rw [Qt.mk_pow] at this
 exact Qt.mk_eq.1 this
theorem dvd_frobk {al : List K} (h : FinL al) {P : Po K} (hP : Ir P) (f : Po K) : ∀ k, P ∣ Rg.pow f (al.length ^ ((len P - 1) * k)) - f
 | 0 => by rw [Nat.mul_zero, Nat.pow_zero, Rg.pow_one, Rg.sub_self]; exact dvd_zero P
 | k + 1 => by
  have h1 := dvd_frobk h hP f k
  have h2 := dvd_frob h hP (Rg.pow f (al.length ^ ((len P - 1) * k)))
  rw [← Rg.pow_mul, ← Nat.pow_add, ← Nat.mul_succ] at h2
  have := dvd_add h2 h1
  rwa [Rg.sub_add_sub] at this
theorem few_fixed {al : List K} (h : FinL al) (hq : 2 ≤ al.length) {P : Po K} (hP : Ir P) {r : Nat} (hr : 1 ≤ r) (hall : ∀ f, P ∣ Rg.pow f (al.length ^ r) - f) : len P - 1 ≤ r := by
 haveI : IrC P := ⟨hP⟩
 have hQ : 2 ≤ al.length ^ r := by
  have := Nat.pow_le_pow_right (show 0 < al.length by omega) hr
  rw [Nat.pow_one] at this; omega
 have hl : len (mn 1 (al.length ^ r) - X : Po (Qt P)) = al.length ^ r + 1 := len_eq (((mn_sh 1 _).sub ((mn_sh 1 1).mono (by omega)))) (by
  rw [cf_sub, cf_mn, if_pos rfl]
  show (1 : Qt P) - cf (mn 1 1) _ ≠ 0
  rw [cf_mn, if_neg (by omega), Rg.sub_zero]; exact Fd.one_ne)
 have h1 := roots_len (qts al P) (mn 1 (al.length ^ r) - X : Po (Qt P)) (qts_nodup h) (len_pos_iff.1 (by omega)) fun a _ => by
  rw [Qt.val_sub_X, ← Qt.mk_val a, Qt.mk_pow, Qt.mk_eq.2 (hall a.1), Rg.sub_self]
 rw [qts_len, hl] at h1
 refine Nat.le_of_not_lt fun hlt => ?_
 have := Nat.pow_lt_pow_right (show 1 < al.length by omega) hlt
 omega
end
section
variable {p m : Int} {mod : List Int} [hF : IsF p m mod]
noncomputable def elA (p m : Int) (mod : List Int) [hF : IsF p m mod] : List (El p m mod) := (0 : El p m mod) :: elNz p m mod
theorem elA_fin : FinL (elA p m mod) := by
 have h := elNz_nz hF.out
 refine ⟨List.nodup_cons.2 ⟨fun hm => (h.mem 0).1 hm rfl, h.nd⟩, fun a => ?_⟩
 by_cases e : a = 0
 ·rw [e]; exact List.mem_cons_self ..
 ·exact List.mem_cons_of_mem _ ((h.mem a).2 e)
theorem elA_len : (elA p m mod).length = (pw p m).toNat := by
 have := hF.q2
 rw [elA, List.length_cons, elNz_len]; omega
theorem frobQ (f g : Po (El p m mod)) (k : Nat) : Rg.pow (f + g) ((pw p m).toNat ^ k) = Rg.pow f ((pw p m).toNat ^ k) + Rg.pow g ((pw p m).toNat ^ k) := by
 have hp := hF.p2
 have e : (pw p m).toNat = p.toNat ^ m.toNat := by
  unfold pw
  rw [Int.toNat_pow_of_nonneg (by omega)]
 rw [e, ← Nat.pow_mul]
 exact frobRk (by omega) (p_prime hF) nc_charP f g _
theorem all_fixed {P : Po (El p m mod)} {n : Nat} (hx : P ∣ Rg.pow X ((pw p m).toNat ^ n) - X) (f : Po (El p m mod)) : P ∣ Rg.pow f ((pw p m).toNat ^ n) - f := by
 have hq := hF.q2
 have hQ : 0 < (pw p m).toNat ^ n := Nat.pow_pos (by omega)
 refine Po.ind (P := fun f => P ∣ Rg.pow f ((pw p m).toNat ^ n) - f) ?_ (fun c j f ih => ?_) f
 ·rw [Rg.zero_pow hQ, Rg.sub_self]; exact dvd_zero P
 ·rw [frobQ]
  have h1 : Rg.pow (mn c j : Po (El p m mod)) ((pw p m).toNat ^ n) = C c * Rg.pow (Rg.pow X ((pw p m).toNat ^ n)) j := by
   have e : (mn c j : Po (El p m mod)) = C c * Rg.pow X j := by
    rw [pow_X]
    show _ = mn c 0 * mn 1 j
    rw [mn_mul, Rg.mul_one, Nat.zero_add]
   rw [e, Rg.mul_pow, ← Rg.pow_mul, ← Rg.pow_mul, Nat.mul_comm j]
   congr 1
   have hcp : ∀ k, Rg.pow (C c : Po (El p m mod)) k = C (Rg.pow c k) := fun k => by
    induction k with
    | zero => exact C_one.symm
    | succ k ih => rw [Rg.pow_succ, Rg.pow_succ, ih, C_mul]
   rw [hcp, all_powk]
  have h2 : ∀ j, P ∣ Rg.pow (Rg.pow X ((pw p m).toNat ^ n)) j - Rg.pow (X : Po (El p m mod)) j := fun j => by
   induction j with
   | zero => rw [Rg.pow_zero, Rg.pow_zero, Rg.sub_self]; exact dvd_zero P
   | succ j ih =>
    obtain ⟨a, ha⟩ := ih
    obtain ⟨b, hb⟩ := hx
    rw [Rg.pow_succ, Rg.pow_succ]
    exact ⟨a * Rg.pow X ((pw p m).toNat ^ n) + Rg.pow X j * b, by grind⟩
  have h3 : (mn c j : Po (El p m mod)) = C c * Rg.pow X j := by
   rw [pow_X]
   show _ = mn c 0 * mn 1 j
   rw [mn_mul, Rg.mul_one, Nat.zero_add]
  rw [h1]
  obtain ⟨a, ha⟩ := ih
  obtain ⟨b, hb⟩ := h2 j
  rw [h3]
  exact ⟨a + C c * b, by grind⟩
theorem ir_dvd_iff {P : Po (El p m mod)} (hP : Ir P) (n : Nat) : P ∣ Rg.pow X ((pw p m).toNat ^ n) - X ↔ (len P - 1) ∣ n := by
 have hq := hF.q2
 have h2 := hP.two
 have hfr : ∀ f k, P ∣ Rg.pow f ((pw p m).toNat ^ ((len P - 1) * k)) - f := fun f k => by
  have := dvd_frobk elA_fin hP f k
  rwa [elA_len] at this
 constructor
 ·intro hx
  have hd := Nat.div_add_mod n (len P - 1)
  have hlt := Nat.mod_lt n (show 0 < len P - 1 by omega)
  refine Classical.byContradiction fun hno => ?_
  have hr : 1 ≤ n % (len P - 1) := Nat.pos_of_ne_zero fun e => hno (Nat.dvd_of_mod_eq_zero e)
  have hall : ∀ f, P ∣ Rg.pow f ((pw p m).toNat ^ (n % (len P - 1))) - f := fun f => by
   have h3 := all_fixed hx f
   have h4 := hfr (Rg.pow f ((pw p m).toNat ^ (n % (len P - 1)))) (n / (len P - 1))
   rw [← Rg.pow_mul, ← Nat.pow_add, Nat.add_comm, hd] at h4
   obtain ⟨a, ha⟩ := h3
   obtain ⟨b, hb⟩ := h4
   exact ⟨a - b, by grind⟩
  have := few_fixed elA_fin (by rw [elA_len]; omega) hP hr (fun f => by rw [elA_len]; exact hall f)
  omega
 ·rintro ⟨k, rfl⟩
  exact hfr X k
theorem xq_sf {n : Nat} (hn : 1 ≤ n) : Sf (Rg.pow X ((pw p m).toNat ^ n) - X : Po (El p m mod)) := fun P hP hd => by
 have hq := hF.q2
 have hp := hF.p2
 obtain ⟨c, hc⟩ := hd
 have h1 := congrArg dP hc
 have h2 : dP (Rg.pow X ((pw p m).toNat ^ n) - X : Po (El p m mod)) = -1 := by
  rw [pow_X]
  refine Po.ext fun j => ?_
  rw [cf_dP, cf_sub, cf_mn, cf_neg, cf_one]
  show Rg.nc (j + 1) * ((if j + 1 = (pw p m).toNat ^ n then 1 else 0) - cf (mn 1 1) (j + 1)) = _
  rw [cf_mn]
  by_cases e : j = 0
  ·subst e
   have h3 : ¬ 0 + 1 = (pw p m).toNat ^ n := fun e => by
    have := Nat.pow_le_pow_right (show 0 < (pw p m).toNat by omega) hn
    rw [Nat.pow_one] at this; omega
   rw [if_neg h3, if_pos rfl, if_pos rfl]
   show (1 : El p m mod) * (0 - 1) = -1
   rw [Rg.one_mul, Rg.zero_sub]
  ·rw [if_neg (show ¬ j + 1 = 1 by omega), if_neg e, Rg.sub_zero, Rg.neg_zero]
   by_cases e2 : j + 1 = (pw p m).toNat ^ n
   ·rw [if_pos e2, Rg.mul_one, e2]
    refine nc_dvd nc_char ?_
    have e3 : (pw p m).toNat = p.toNat ^ m.toNat := by
     unfold pw
     rw [Int.toNat_pow_of_nonneg (by omega)]
    rw [e3, ← Nat.pow_mul]
    have hm := hF.m1
    have : 0 < m.toNat * n := Nat.mul_pos (by omega) (by omega)
    obtain ⟨k, hk⟩ : ∃ k, m.toNat * n = k + 1 := ⟨m.toNat * n - 1, by omega⟩
    rw [hk, Nat.pow_succ]
    exact Nat.dvd_mul_left _ _
   ·rw [if_neg e2, Rg.mul_zero]
 rw [h2, dP_mul, dP_mul] at h1
 have h3 : P ∣ (1 : Po (El p m mod)) := ⟨-(dP P * c + dP P * c + P * dP c), by grind⟩
 exact hP.not_one len_one h3
end
end Go.Proofs.Ytdkahdehodopoaa

namespace Go.Proofs.Ytdkahdehodopoaa
open Po
section
variable {p m : Int} {mod : List Int} [hF : IsF p m mod]
noncomputable def xq (p m : Int) (mod : List Int) [hF : IsF p m mod] (i : Nat) : Po (El p m mod) := Rg.pow X ((pw p m).toNat ^ i) - X
theorem xq_dvd {P : Po (El p m mod)} (hP : Ir P) (n : Nat) : P ∣ xq p m mod n ↔ (len P - 1) ∣ n := ir_dvd_iff hP n
theorem gcd_congr {f a b : Po (El p m mod)} (hf : f ≠ 0) (h : f ∣ a - b) : Po.gcd f a = Po.gcd f b := by
 have ga := gcd_is f a
 have gb := gcd_is f b
 have h1 : Po.gcd f a ∣ b := dvd_of_sub ga.right (dvd_trans ga.left h)
 have h2 : Po.gcd f b ∣ a := by
  have : Po.gcd f b ∣ (a - b) + b := dvd_add (dvd_trans gb.left h) gb.right
  rwa [Rg.sub_add_cancel] at this
 exact monic_eq (gb.great ga.left h1) (ga.great gb.left h2) (gcd_monic (.inl hf)) (gcd_monic (.inl hf))
theorem prime_between {n d : Nat} (hn : 1 ≤ n) (hd : d ∣ n) (hne : d ≠ n) : ∃ r, 2 ≤ r ∧ (∀ u, 2 ≤ u → u ∣ r → u = r) ∧ r ∣ n ∧ d ∣ n / r := by
 obtain ⟨k, rfl⟩ := hd
 have hk : 2 ≤ k := by
  match k with
  | 0 => simp at hn
  | 1 => exact absurd (Nat.mul_one d).symm hne
  | k + 2 => omega
 obtain ⟨r, h2, hr, hmin⟩ := Fd.least_factor hk
 obtain ⟨c, rfl⟩ := hr
 refine ⟨r, h2, fun u hu hur => ?_, ⟨d * c, by rw [← Nat.mul_assoc, ← Nat.mul_assoc, Nat.mul_comm d r]⟩, ⟨c, ?_⟩⟩
 ·have := hmin u hu (Nat.dvd_trans hur ⟨c, rfl⟩)
  have := Nat.le_of_dvd (by omega) hur
  omega
 ·rw [show d * (r * c) = r * (d * c) by rw [← Nat.mul_assoc, ← Nat.mul_assoc, Nat.mul_comm d r]]
  exact Nat.mul_div_cancel_left _ (by omega)
theorem rabin {f : Po (El p m mod)} {n : Nat} (hl : len f = n + 1) (hn : 1 ≤ n) :
  Ir f ↔ f ∣ xq p m mod n ∧ ∀ r, 2 ≤ r → (∀ u, 2 ≤ u → u ∣ r → u = r) → r ∣ n → Po.gcd f (xq p m mod (n / r)) = 1 := by
 have hf : f ≠ 0 := len_pos_iff.1 (by omega)
 constructor
 ·intro h
  refine ⟨(xq_dvd h n).2 (by rw [hl]; exact Nat.dvd_refl _), fun r h2 _ hr => (h.gcd _).resolve_right fun hd => ?_⟩
  have h3 := (xq_dvd h _).1 hd
  rw [hl, Nat.add_sub_cancel] at h3
  obtain ⟨c, rfl⟩ := hr
  rw [Nat.mul_div_cancel_left _ (by omega)] at h3
  have hc : 0 < c := Nat.pos_of_ne_zero fun e => by subst e; simp at hn
  have := Nat.le_of_dvd hc h3
  have h4 : c * 2 ≤ c * r := Nat.mul_le_mul_left c h2
  rw [Nat.mul_comm c r] at h4
  omega
 ·rintro ⟨h1, h2⟩
  refine ir_of_no (by omega) fun P hP hd => Classical.byContradiction fun hne => ?_
  have h3 := (xq_dvd hP n).1 (dvd_trans hd h1)
  have h4 := hP.two
  obtain ⟨r, r2, rp, rd, rn⟩ := prime_between hn h3 (by omega)
  have h5 := (xq_dvd hP _).2 rn
  exact (gcd_one_iff hf).1 (h2 r r2 rp rd) P hP hd h5
theorem lead_one_ne {K : Type} [Fd K] {f : Po K} (h : lead f = 1) : f ≠ 0 := fun e => by
 rw [e] at h
 exact Fd.one_ne (K := K) (by rw [← h]; rfl)
end
end Go.Proofs.Ytdkahdehodopoaa

namespace Go.Proofs.Ytdkahdehodopoaa
open Po
section
variable {K : Type} [Fd K]
theorem mu_ex {P f : Po K} (hP : Ir P) (hf : f ≠ 0) : ∃ k, Rg.pow P k ∣ f ∧ ¬ Rg.pow P (k + 1) ∣ f := by
 have : ∃ n, ¬ Rg.pow P n ∣ f := ⟨len f, fun h => by
  have h1 := dvd_len h hf
  have h2 := len_pow_ge hP.two (len f)
  omega⟩
 obtain ⟨n, hn, hmin⟩ := nat_least this
 match n, hn, hmin with
 | 0, hn, _ => exact absurd (one_dvd f) hn
 | k + 1, hn, hmin => exact ⟨k, Classical.byContradiction fun h => hmin k (by omega) h, hn⟩
open Classical in
noncomputable def mu (P f : Po K) : Nat := if h : ∃ k, Rg.pow P k ∣ f ∧ ¬ Rg.pow P (k + 1) ∣ f then Classical.choose h else 0
variable {P f g : Po K}
theorem mu_spec (hP : Ir P) (hf : f ≠ 0) : Rg.pow P (mu P f) ∣ f ∧ ¬ Rg.pow P (mu P f + 1) ∣ f := by
 unfold mu
 rw [dif_pos (mu_ex hP hf)]
 exact Classical.choose_spec (mu_ex hP hf)
theorem mu_le_iff (hP : Ir P) (hf : f ≠ 0) (k : Nat) : Rg.pow P k ∣ f ↔ k ≤ mu P f := by
 have h := mu_spec hP hf
 constructor
 ·intro hk
  refine Nat.le_of_not_lt fun hlt => h.2 (dvd_trans (pow_dvd P (show mu P f + 1 ≤ k by omega)) hk)
 ·intro hk
  exact dvd_trans (pow_dvd P hk) h.1
theorem mu_eq (hP : Ir P) (hf : f ≠ 0) {k : Nat} (h1 : Rg.pow P k ∣ f) (h2 : ¬ Rg.pow P (k + 1) ∣ f) : mu P f = k := by
 have h := (mu_le_iff hP hf k).1 h1
 have h' : ¬ k + 1 ≤ mu P f := fun e => h2 ((mu_le_iff hP hf _).2 e)
 omega
theorem dvd_iff_mu (hP : Ir P) (hf : f ≠ 0) : P ∣ f ↔ 1 ≤ mu P f := by
 rw [← mu_le_iff hP hf, Rg.pow_one]
theorem mu_split (hP : Ir P) (hf : f ≠ 0) : ∃ b, f = Rg.pow P (mu P f) * b ∧ ¬ P ∣ b := by
 obtain ⟨h1, h2⟩ := mu_spec hP hf
 obtain ⟨b, hb⟩ := h1
 refine ⟨b, hb, fun hd => h2 ?_⟩
 obtain ⟨c, rfl⟩ := hd
 exact ⟨c, by rw [Rg.pow_succ, Rg.mul_assoc]; exact hb⟩
theorem mu_of_split (hP : Ir P) {b : Po K} {k : Nat} (hb : ¬ P ∣ b) (hf : Rg.pow P k * b ≠ 0) : mu P (Rg.pow P k * b) = k := mu_eq hP hf (dvd_mul _ _) fun h => by
 rw [Rg.pow_succ] at h
 exact hb (mul_dvd_cancel (pow_ne0 hP.ne k) h)
theorem mu_mul (hP : Ir P) (hf : f ≠ 0) (hg : g ≠ 0) : mu P (f * g) = mu P f + mu P g := by
 obtain ⟨a, ha, ha'⟩ := mu_split hP hf
 obtain ⟨b, hb, hb'⟩ := mu_split hP hg
 have e : f * g = Rg.pow P (mu P f + mu P g) * (a * b) := by
  rw [Rg.pow_add]
  have h1 := congrArg (fun z => z * g) ha
  have h2 := congrArg (fun z => Rg.pow P (mu P f) * a * z) hb
  rw [h1, h2]; grind
 have hfg := mul_ne hf hg
 rw [e] at hfg
 rw [e]
 exact mu_of_split hP (fun h => (hP.prime h).elim ha' hb') hfg
theorem mu_one (hP : Ir P) : mu P 1 = 0 := mu_eq hP one_ne (one_dvd 1) fun h => by
 rw [Rg.pow_one] at h; exact hP.not_one len_one h
theorem dvd_of_mu (hf : f ≠ 0) (hg : g ≠ 0) (h : ∀ P, Ir P → lead P = 1 → mu P f ≤ mu P g) : f ∣ g :=
 dvd_of_pows _ f g (Nat.le_refl _) hf fun P k hP hl hd => (mu_le_iff hP hg k).2 (Nat.le_trans ((mu_le_iff hP hf k).1 hd) (h P hP hl))
theorem eq_of_mu (hf : lead f = 1) (hg : lead g = 1) (h : ∀ P, Ir P → lead P = 1 → mu P f = mu P g) : f = g := by
 have f0 : f ≠ 0 := fun e => by rw [e] at hf; exact Fd.one_ne (K := K) (by rw [← hf]; rfl)
 have g0 : g ≠ 0 := fun e => by rw [e] at hg; exact Fd.one_ne (K := K) (by rw [← hg]; rfl)
 exact monic_eq (dvd_of_mu f0 g0 fun P hP hl => Nat.le_of_eq (h P hP hl)) (dvd_of_mu g0 f0 fun P hP hl => Nat.le_of_eq (h P hP hl).symm) hf hg
theorem sf_iff_mu (hf : f ≠ 0) : Sf f ↔ ∀ P, Ir P → mu P f ≤ 1 := by
 constructor
 ·intro h P hP
  refine Nat.le_of_not_lt fun hlt => h P hP ?_
  have := (mu_le_iff hP hf 2).2 hlt
  rwa [Rg.pow_succ, Rg.pow_one] at this
 ·intro h P hP hd
  have : Rg.pow P 2 ∣ f := by rwa [Rg.pow_succ, Rg.pow_one]
  have := (mu_le_iff hP hf 2).1 this
  have := h P hP
  omega
end
section
variable {p m : Int} {mod : List Int} [hF : IsF p m mod]
theorem len_powN {f : Po (El p m mod)} (hf : f ≠ 0) : ∀ n, len (Rg.pow f n) = n * (len f - 1) + 1
 | 0 => by rw [Rg.pow_zero, len_one, Nat.zero_mul]
 | n + 1 => by
  have := len_pos hf
  rw [Rg.pow_succ, len_mul (pow_ne0 hf n) hf, len_powN hf n, Nat.succ_mul]; omega
end
end Go.Proofs.Ytdkahdehodopoaa

namespace Go.Proofs.Ytdkahdehodopoaa
open Po
section
end
end Go.Proofs.Ytdkahdehodopoaa

namespace Go.Proofs.Ytdkahdehodopoaa
open Go.RowKit
section
open Vc
end
section
open Vc
end
end Go.Proofs.Ytdkahdehodopoaa

set_option maxRecDepth 100000
namespace Go.Proofs.Ytdkahdehodopoaa
open Go.RowKit
end Go.Proofs.Ytdkahdehodopoaa

set_option maxRecDepth 100000
namespace Go.Proofs.Ytdkahdehodopoaa
open Go.RowKit
end Go.Proofs.Ytdkahdehodopoaa

namespace Go.Proofs.Ytdkahdehodopoaa
open Go.RowKit
end Go.Proofs.Ytdkahdehodopoaa

set_option maxRecDepth 100000
namespace Go.Proofs.Ytdkahdehodopoaa
open Go.RowKit
end Go.Proofs.Ytdkahdehodopoaa

set_option maxRecDepth 100000
namespace Go.Proofs.Ytdkahdehodopoaa
open Go.RowKit
end Go.Proofs.Ytdkahdehodopoaa

namespace Go.Proofs.Ytdkahdehodopoaa
open Go.RowKit
end Go.Proofs.Ytdkahdehodopoaa

set_option maxRecDepth 100000
namespace Go.Proofs.Ytdkahdehodopoaa
open Go.RowKit
section
end
section
end
end Go.Proofs.Ytdkahdehodopoaa

namespace Go.Proofs.Ytdkahdehodopoaa
open Go.RowKit
section
variable {P : Program} {N : NB} {M : Nat → Prop} {w0 : World} {L : Fr} {F : List Chunk} {o : Oper} {v : Value} {x y : Operand} {t t' : TypeId}
theorem rAddU {m n : Int} (ho : o.op = .binOp .add t x y t') (hx : ev L x = some (.int .u64 m)) (hy : ev L y = some (.int .u64 n)) (h1 : 0 ≤ m + n) (h2 : m + n ≤ 18446744073709551615) : Stl P N M w0 o L F (.int .u64 (m + n)) :=
 stl_pure fun a hl => by simp [execOp, ho, hl.eval hx, hl.eval hy, eqGuard, binOp, Op.intArith, IntWalk.u64_in _ ⟨h1, h2⟩]
theorem rMulU {m n : Int} (ho : o.op = .binOp .mul t x y t') (hx : ev L x = some (.int .u64 m)) (hy : ev L y = some (.int .u64 n)) (h1 : 0 ≤ m * n) (h2 : m * n ≤ 18446744073709551615) : Stl P N M w0 o L F (.int .u64 (m * n)) :=
 stl_pure fun a hl => by simp [execOp, ho, hl.eval hx, hl.eval hy, eqGuard, binOp, Op.intArith, IntWalk.u64_in _ ⟨h1, h2⟩]
theorem rQuoU {m n : Int} (ho : o.op = .binOp .quo t x y t') (hx : ev L x = some (.int .u64 m)) (hy : ev L y = some (.int .u64 n)) (h1 : 0 ≤ m ∧ m ≤ 18446744073709551615) (h2 : 1 ≤ n) : Stl P N M w0 o L F (.int .u64 (m / n)) :=
 stl_pure fun a hl => by
  have hn : n ≠ 0 := by omega
  simp [execOp, ho, hl.eval hx, hl.eval hy, eqGuard, binOp, Op.intDiv, hn, IntWalk.u64_quo m n ⟨h1.1, h1.2, h2⟩]
theorem rRemU {m n : Int} (ho : o.op = .binOp .rem t x y t') (hx : ev L x = some (.int .u64 m)) (hy : ev L y = some (.int .u64 n)) (h1 : 0 ≤ m) (h2 : 1 ≤ n) : Stl P N M w0 o L F (.int .u64 (m % n)) :=
 stl_pure fun a hl => by
  have hn : n ≠ 0 := by omega
  simp [execOp, ho, hl.eval hx, hl.eval hy, eqGuard, binOp, Op.intDiv, hn, IntWalk.rem_in m n h1]
end
end Go.Proofs.Ytdkahdehodopoaa

set_option maxRecDepth 100000
namespace Go.Proofs.Ytdkahdehodopoaa
open Go.RowKit
theorem undU64 : Try.prog.underlying 41 = some (.int .u64) := by kernel_rfl
end Go.Proofs.Ytdkahdehodopoaa

namespace Go.Proofs.Ytdkahdehodopoaa
open Go.RowKit
section
end
end Go.Proofs.Ytdkahdehodopoaa

namespace Go.Proofs.Ytdkahdehodopoaa
open Go.RowKit
def vN : List Int → Int
 | [] => 0
 | x :: l => x + 4294967296 * vN l
def Lm (l : List Int) : Prop := ∀ x ∈ l, 0 ≤ x ∧ x < 4294967296
theorem Lm.get {l : List Int} (h : Lm l) (j : Nat) : 0 ≤ l.getD j 0 ∧ l.getD j 0 < 4294967296 := by
 by_cases hj : j < l.length
 ·exact h _ (getD_mem hj 0)
 ·rw [getD_out (by omega)]; omega
theorem Lm.of {l : List Int} (h : ∀ j, j < l.length → 0 ≤ l.getD j 0 ∧ l.getD j 0 < 4294967296) : Lm l := fun x hx => by
 obtain ⟨j, hj, rfl⟩ := List.getElem_of_mem hx
 have := h j hj
 rwa [List.getD_eq_getElem?_getD, List.getElem?_eq_getElem hj] at this
theorem vN_nn : ∀ {l : List Int}, Lm l → 0 ≤ vN l
 | [], _ => Int.le_refl _
 | x :: l, h => by
  have h1 := h x (List.mem_cons_self ..)
  have h2 := vN_nn (l := l) fun y hy => h y (List.mem_cons_of_mem _ hy)
  rw [vN]; omega
theorem vN_lt : ∀ {l : List Int}, Lm l → vN l < 4294967296 ^ l.length
 | [], _ => by simp [vN]
 | x :: l, h => by
  have h1 := h x (List.mem_cons_self ..)
  have h2 := vN_lt (l := l) fun y hy => h y (List.mem_cons_of_mem _ hy)
  rw [vN, List.length_cons, Int.pow_succ]
  omega
theorem vN_app : ∀ a b : List Int, vN (a ++ b) = vN a + 4294967296 ^ a.length * vN b
 | [], b => by simp [vN]
 | x :: a, b => by
  rw [List.cons_append, vN, vN, vN_app a b, List.length_cons, Int.pow_succ, Int.mul_add, Int.add_assoc, ← Int.mul_assoc, Int.mul_comm 4294967296 (4294967296 ^ a.length)]
theorem vN_zeros : ∀ n : Nat, vN (List.replicate n 0) = 0
 | 0 => rfl
 | n + 1 => by rw [List.replicate_succ, vN, vN_zeros n]; rfl
theorem vN_take {l : List Int} {k : Nat} (hk : k < l.length) : vN (l.take (k + 1)) = vN (l.take k) + 4294967296 ^ k * l.getD k 0 := by
 have e : l.take (k + 1) = l.take k ++ [l.getD k 0] := by
  rw [List.take_add_one, List.getD_eq_getElem?_getD, List.getElem?_eq_getElem hk]; rfl
 rw [e, vN_app, List.length_take, Nat.min_eq_left (by omega)]
 simp [vN]
theorem vN_cut {l : List Int} : ∀ {k : Nat}, (∀ j, k ≤ j → l.getD j 0 = 0) → vN (l.take k) = vN l := fun {k} h => by
 have e : l.drop k = List.replicate (l.length - k) 0 := by
  refine List.ext_getElem (by simp) fun i h1 h2 => ?_
  rw [List.getElem_drop, List.getElem_replicate]
  have := h (k + i) (by omega)
  rw [List.getD_eq_getElem?_getD, List.getElem?_eq_getElem (by simp at h1; omega)] at this
  exact this
 have h2 := vN_app (l.take k) (l.drop k)
 rw [List.take_append_drop, e, vN_zeros, Int.mul_zero, Int.add_zero] at h2
 exact h2.symm
theorem vN_set : ∀ {l : List Int} {k : Nat} {x : Int}, k < l.length → vN (l.set k x) = vN l + 4294967296 ^ k * (x - l.getD k 0)
 | [], k, x, h => by simp at h
 | y :: l, 0, x, _ => by
  rw [List.set_cons_zero, vN, vN, List.getD_cons_zero, Int.pow_zero]; omega
 | y :: l, k + 1, x, h => by
  rw [List.set_cons_succ, vN, vN, List.getD_cons_succ, vN_set (l := l) (k := k) (x := x) (by simpa using h), Int.pow_succ, Int.mul_add, Int.add_assoc, Int.mul_comm (4294967296 ^ k) 4294967296, Int.mul_assoc]
end Go.Proofs.Ytdkahdehodopoaa

namespace Go.Proofs.Ytdkahdehodopoaa
open Go.RowKit
def lmb (n : Nat) : List Int := if h : n = 0 then [] else ((n % 4294967296 : Nat) : Int) :: lmb (n / 4294967296)
termination_by n
decreasing_by omega
theorem lmb_zero : lmb 0 = [] := by rw [lmb]; rfl
theorem lmb_pos {n : Nat} (h : n ≠ 0) : lmb n = ((n % 4294967296 : Nat) : Int) :: lmb (n / 4294967296) := by rw [lmb, dif_neg h]
theorem lmb_ind {p : Nat → Prop} (h0 : p 0) (h1 : ∀ n, n ≠ 0 → p (n / 4294967296) → p n) (n : Nat) : p n := by
 induction n using Nat.strongRecOn with
 | ind n ih =>
  by_cases h : n = 0
  ·rw [h]; exact h0
  ·exact h1 n h (ih _ (by omega))
theorem vN_lmb (n : Nat) : vN (lmb n) = n := by
 refine lmb_ind (p := fun n => vN (lmb n) = n) ?_ (fun n h ih => ?_) n
 ·rw [lmb_zero]; rfl
 ·rw [lmb_pos h, vN, ih]; omega
theorem lmb_lm (n : Nat) : Lm (lmb n) := by
 refine lmb_ind (p := fun n => Lm (lmb n)) ?_ (fun n h ih => ?_) n
 ·rw [lmb_zero]; intro x hx; simp at hx
 ·rw [lmb_pos h]
  intro x hx
  rcases List.mem_cons.1 hx with rfl | hx
  ·omega
  ·exact ih x hx
theorem lmb_len {n k : Nat} : n < 4294967296 ^ k → (lmb n).length ≤ k := by
 induction k generalizing n with
 | zero => intro h; rw [show n = 0 by simpa using h, lmb_zero]; simp
 | succ k ih =>
  intro h
  by_cases h0 : n = 0
  ·rw [h0, lmb_zero]; simp
  ·rw [lmb_pos h0, List.length_cons]
   have := ih (n := n / 4294967296) (by rw [Nat.pow_succ] at h; omega)
   omega
theorem lmb_nil {n : Nat} : (lmb n).length = 0 ↔ n = 0 := by
 constructor
 ·intro h
  by_cases h0 : n = 0
  ·exact h0
  ·rw [lmb_pos h0] at h; simp at h
 ·rintro rfl; rw [lmb_zero]; rfl
theorem lmb_of : ∀ {l : List Int}, Lm l → (l = [] ∨ l.getD (l.length - 1) 0 ≠ 0) → l = lmb (vN l).toNat
 | [], _, _ => by rw [show (vN []).toNat = 0 from rfl, lmb_zero]
 | x :: l, h, h1 => by
  have hx := h x (List.mem_cons_self ..)
  have hl : Lm l := fun y hy => h y (List.mem_cons_of_mem _ hy)
  have hn := vN_nn hl
  have h2 : l = [] ∨ l.getD (l.length - 1) 0 ≠ 0 := by
   cases l with
   | nil => exact .inl rfl
   | cons y l =>
    right
    have := h1.resolve_left (by simp)
    simpa using this
  have ih := lmb_of hl h2
  have hv : vN (x :: l) = x + 4294967296 * vN l := rfl
  have hp : (vN (x :: l)).toNat ≠ 0 := by
   intro h0
   have hz : x + 4294967296 * vN l = 0 := by omega
   have hl0 : vN l = 0 := by omega
   rw [hl0] at ih
   rw [show ((0 : Int).toNat) = 0 from rfl, lmb_zero] at ih
   rw [ih] at h1
   have := h1.resolve_left (by simp)
   simp at this
   omega
  rw [lmb_pos hp, show (vN (x :: l)).toNat / 4294967296 = (vN l).toNat by omega, ← ih]
  congr 1
  omega
theorem lmb_cut {l : List Int} (h : Lm l) {k : Nat} (hk : k ≤ l.length) (h0 : ∀ j, k ≤ j → l.getD j 0 = 0) (h1 : k = 0 ∨ l.getD (k - 1) 0 ≠ 0) : l.take k = lmb (vN l).toNat := by
 have h2 := lmb_of (l := l.take k) (fun x hx => h x (List.mem_of_mem_take hx)) (by
  rcases Nat.eq_zero_or_pos k with h3 | h3
  ·left; rw [h3]; rfl
  ·right
   have h4 := h1.resolve_left (by omega)
   rw [List.length_take, Nat.min_eq_left hk, List.getD_eq_getElem?_getD, List.getElem?_take_of_lt (by omega), ← List.getD_eq_getElem?_getD]
   exact h4)
 rwa [vN_cut h0] at h2
theorem lmb_ge {n k : Nat} (h : (lmb n).length ≤ k) : n < 4294967296 ^ k := by
 have h1 := vN_lt (lmb_lm n)
 rw [vN_lmb] at h1
 have h2 : (4294967296 : Int) ^ (lmb n).length = ((4294967296 ^ (lmb n).length : Nat) : Int) := by rw [Int.natCast_pow]; rfl
 have h3 : 4294967296 ^ (lmb n).length ≤ 4294967296 ^ k := Nat.pow_le_pow_right (by omega) h
 omega
theorem lmb_short {l : List Int} (h : Lm l) : (lmb (vN l).toNat).length ≤ l.length := lmb_len (by
 have h1 := vN_lt h
 have h2 := vN_nn h
 have e : (4294967296 : Int) ^ l.length = ((4294967296 ^ l.length : Nat) : Int) := by rw [Int.natCast_pow]; rfl
 omega)
theorem vN_ext {a b : List Int} (h : ∀ j, a.getD j 0 = b.getD j 0) : vN a = vN b := by
 have h1 := vN_cut (l := a) (k := b.length) fun j hj => by rw [h, getD_out hj]
 have h2 : a.take b.length ++ List.replicate (b.length - a.length) 0 = b := ext_getD (by simp; omega) fun j => by
  rw [← h]
  rw [List.getD_eq_getElem?_getD, List.getD_eq_getElem?_getD, List.getElem?_append]
  split
  ·rename_i h3; rw [List.getElem?_take]; split
   ·rfl
   ·rename_i h4; simp at h3; omega
  ·rename_i h3
   simp at h3
   by_cases h4 : b.length ≤ j
   ·have h5 : a.getD j 0 = 0 := by rw [h, getD_out h4]
    rw [List.getD_eq_getElem?_getD] at h5; rw [h5]
    rw [List.getElem?_replicate]; split <;> rfl
   ·have h5 : a.getD j 0 = 0 := getD_out (by omega)
    rw [List.getD_eq_getElem?_getD] at h5; rw [h5]
    rw [List.getElem?_replicate]; split <;> rfl
 have h3 := congrArg vN h2
 rw [vN_app, vN_zeros, Int.mul_zero, Int.add_zero] at h3
 rw [← h1, h3]
theorem lm_set {a : List Int} (ha : Lm a) {k : Nat} {x : Int} (h0 : 0 ≤ x) (h1 : x < 4294967296) : Lm (a.set k x) := fun y hy => by
 rcases List.mem_or_eq_of_mem_set hy with h | rfl
 ·exact ha y h
 ·exact ⟨h0, h1⟩
theorem lm_rep (n : Nat) : Lm (List.replicate n 0) := fun y hy => by
 rw [(List.mem_replicate.1 hy).2]; omega
def cmpZ (a b : Int) : Int := if a < b then -1 else if a > b then 1 else 0
def hN (l : List Int) (k : Nat) : Int := vN (l.drop k)
theorem hN_step (l : List Int) (k : Nat) : hN l k = l.getD k 0 + 4294967296 * hN l (k + 1) := by
 unfold hN
 by_cases hk : k < l.length
 ·have e : l.drop k = l.getD k 0 :: l.drop (k + 1) := by
   rw [List.drop_eq_getElem_cons hk, List.getD_eq_getElem?_getD, List.getElem?_eq_getElem hk]; rfl
  rw [e, vN]
 ·rw [List.drop_eq_nil_of_le (by omega), List.drop_eq_nil_of_le (by omega), getD_out (by omega)]; rfl
theorem hN_zero (l : List Int) : hN l 0 = vN l := rfl
theorem hN_out {l : List Int} {k : Nat} (h : l.length ≤ k) : hN l k = 0 := by unfold hN; rw [List.drop_eq_nil_of_le h]; rfl
theorem hN_nn {l : List Int} (h : Lm l) (k : Nat) : 0 ≤ hN l k := vN_nn fun x hx => h x (List.mem_of_mem_drop hx)
theorem hN_set {l : List Int} {k j : Nat} {x : Int} (h : j < k) : hN (l.set j x) k = hN l k := by
 unfold hN
 rw [List.drop_set]
 rw [if_pos h]
theorem vN_tk (l : List Int) (k : Nat) : vN (l.take (k + 1)) = vN (l.take k) + 4294967296 ^ k * l.getD k 0 := by
 by_cases hk : k < l.length
 ·exact vN_take hk
 ·rw [List.take_of_length_le (by omega), List.take_of_length_le (by omega), getD_out (by omega)]; simp
theorem vN_all {l : List Int} {k : Nat} (h : l.length ≤ k) : vN (l.take k) = vN l := by rw [List.take_of_length_le h]
theorem vN_split (l : List Int) (k : Nat) : vN l = vN (l.take k) + 4294967296 ^ k * hN l k := by
 by_cases hk : k ≤ l.length
 ·have h1 := vN_app (l.take k) (l.drop k)
  rw [List.take_append_drop, List.length_take, Nat.min_eq_left hk] at h1
  exact h1
 ·rw [vN_all (by omega), hN_out (by omega)]; simp
theorem vN_tk_lt {l : List Int} (h : Lm l) (k : Nat) : vN (l.take k) < 4294967296 ^ k := by
 have h1 := vN_lt (l := l.take k) fun x hx => h x (List.mem_of_mem_take hx)
 have h2 : (l.take k).length ≤ k := by rw [List.length_take]; omega
 have h3 : (4294967296 : Int) ^ (l.take k).length ≤ 4294967296 ^ k := by
  have := Nat.pow_le_pow_right (show 0 < 4294967296 by omega) h2
  have e1 : (4294967296 : Int) ^ (l.take k).length = ((4294967296 ^ (l.take k).length : Nat) : Int) := by rw [Int.natCast_pow]; rfl
  have e2 : (4294967296 : Int) ^ k = ((4294967296 ^ k : Nat) : Int) := by rw [Int.natCast_pow]; rfl
  omega
 omega
theorem hN_ext {a b : List Int} (k : Nat) (h : ∀ j : Nat, k ≤ j → a.getD j 0 = b.getD j 0) : hN a k = hN b k := vN_ext fun j => by
 have h1 := h (k + j) (by omega)
 rw [List.getD_eq_getElem?_getD, List.getD_eq_getElem?_getD] at h1 ⊢
 rw [List.getElem?_drop, List.getElem?_drop]; exact h1
theorem vN_lt2 {a b : List Int} (ha : Lm a) (hb : Lm b) (k : Nat) (h : ∀ j : Nat, k < j → a.getD j 0 = b.getD j 0) (hlt : a.getD k 0 < b.getD k 0) : vN a < vN b := by
 have h1 := hN_ext (a := a) (b := b) (k + 1) fun j hj => h j (by omega)
 have h2 := hN_step a k
 have h3 := hN_step b k
 have h4 := vN_split a k
 have h5 := vN_split b k
 have h6 := vN_tk_lt ha k
 have h7 : 0 ≤ vN (b.take k) := vN_nn fun x hx => hb x (List.mem_of_mem_take hx)
 have hp : (0 : Int) < 4294967296 ^ k := Int.pow_pos (by omega)
 have h8 : (4294967296 : Int) ^ k * (hN a k + 1) ≤ 4294967296 ^ k * hN b k := Int.mul_le_mul_of_nonneg_left (by omega) (by omega)
 rw [Int.mul_add, Int.mul_one] at h8
 omega
theorem add_alg {O a b x y c P : Int} (h : O + P * c = a + b) {k : Nat} (hP : (4294967296 : Int) ^ k = P := by rfl) : (O + P * vN [(x + y + c) % 4294967296]) + 4294967296 ^ (k + 1) * ((x + y + c) / 4294967296) = (a + P * x) + (b + P * y) := by
 have h1 := Int.emod_add_mul_ediv (x + y + c) 4294967296
 generalize (x + y + c) % 4294967296 = r at *
 generalize (x + y + c) / 4294967296 = q at *
 rw [Int.pow_succ, hP]
 simp only [vN]
 have : c = r + 4294967296 * q - x - y := by omega
 subst this
 grind
theorem mul_alg {O W x y z c K : Int} {i j : Nat} (h : O + 4294967296 ^ (i + j) * c = W + 4294967296 ^ i * x * K) : O + 4294967296 ^ (i + j) * ((x * y + z + c) % 4294967296 - z) + 4294967296 ^ (i + j + 1) * ((x * y + z + c) / 4294967296) = W + 4294967296 ^ i * x * (K + 4294967296 ^ j * y) := by
 have h1 := Int.emod_add_mul_ediv (x * y + z + c) 4294967296
 generalize (x * y + z + c) % 4294967296 = r at *
 generalize (x * y + z + c) / 4294967296 = q at *
 have e : (4294967296 : Int) ^ (i + j) = 4294967296 ^ i * 4294967296 ^ j := Int.pow_add ..
 rw [Int.pow_succ, e]
 rw [e] at h
 clear e
 generalize (4294967296 : Int) ^ i = P at *
 generalize (4294967296 : Int) ^ j = Q at *
 have : c = r + 4294967296 * q - x * y - z := by omega
 subst this
 grind
theorem pow_len {a e : Nat} (ha : a ≤ 256) (he : e ≤ 256) : (lmb (a ^ e)).length ≤ 65 := lmb_len (by
 have h1 := Nat.pow_le_pow_left ha e
 have h2 := Nat.pow_le_pow_right (show 0 < 256 by omega) he
 have h3 : 256 ^ 256 < 4294967296 ^ 65 := by decide
 exact Nat.lt_of_le_of_lt h1 (Nat.lt_of_le_of_lt h2 h3))
theorem lmb_one : lmb 1 = [1] := by rw [lmb_pos (by omega)]; simp [lmb_zero]
theorem small_alg {P O d r p : Int} (h : P = d * O + r) : p + 4294967296 * P = d * ((r * 4294967296 + p) / d + 4294967296 * O) + (r * 4294967296 + p) % d := by
 have h1 := Int.emod_add_mul_ediv (r * 4294967296 + p) d
 generalize (r * 4294967296 + p) % d = y at *
 generalize (r * 4294967296 + p) / d = z at *
 grind
end Go.Proofs.Ytdkahdehodopoaa

namespace Go.Proofs.Ytdkahdehodopoaa
open Go.RowKit
def w32 (xs : List Int) : List Value := xs.map (Value.int .u32)
@[simp] theorem w32_length (xs : List Int) : (w32 xs).length = xs.length := by simp [w32]
theorem w32_set (xs : List Int) (j : Nat) (x : Int) : w32 (xs.set j x) = (w32 xs).set j (.int .u32 x) := by unfold w32; rw [List.map_set]
theorem w32_app (xs ys : List Int) : w32 (xs ++ ys) = w32 xs ++ w32 ys := by unfold w32; rw [List.map_append]
theorem w32_one (xs : List Int) : ∀ u ∈ w32 xs, u.oneCell' = true := fun u hu => by
 obtain ⟨x, _, rfl⟩ := List.mem_map.1 hu
 rfl
section
variable {P : Program} {N : NB} {M : Nat → Prop} {w0 : World} {L : Fr} {F F' : List Chunk} {K : Fr → List Chunk → Prop} {b : Bool} {o : Oper} {v z : Value} {x y : Operand} {t t' e : TypeId} {bytes : Nat}
theorem rIdxW {by_ : Nat} {A : Option Addr} {n c : Nat} {i : Int} {xs : List Int} (ho : o.op = .indexAddr t x y) [h : SlTy P t e z by_] (hx : ev L x = some (.slice A n c)) (hy : ev L y = some (.int .i64 i)) [hr : Rd F A (w32 xs)] (h0 : 0 ≤ i) (h1 : i < n) (h2 : i < xs.length) :
  Stl P N M w0 o L F (.pointer (some ((A.getD a0).add i.toNat))) := rIdx ho (h := h) hx hy (hr := hr) h0 h1 (by simpa using h2)
theorem rLdW {A : Option Addr} {j : Nat} {xs : List Int} (ho : o.op = .load t x) [h : ScTy P t] (hx : ev L x = some (.pointer (some ((A.getD a0).add j)))) [hr : Rd F A (w32 xs)] (hj : j < xs.length) : Stl P N M w0 o L F (.int .u32 (xs.getD j 0)) :=
 rLdV ho (h := h) hx (hr := hr) (by rw [w32, List.getElem?_map, List.getElem?_eq_getElem hj, List.getD_eq_getElem?_getD, List.getElem?_eq_getElem hj]; rfl)
theorem eStW {A : Option Addr} {j cap : Nat} {xs : List Int} {n : Int} (ho : o.op = .store t x y) (hd : o.dst = none) [h : ScTy P t] (hx : ev L x = some (.pointer (some ((A.getD a0).add j)))) (hy : ev L y = some (.int .u32 n)) [hp : PkOw F A e cap (w32 xs) F'] (hj : j < xs.length)
  (hK : K L (ow A e cap (w32 (xs.set j n)) :: F')) : Eff P N M w0 false o L F K := eSt ho hd (h := h) hx hy (hp := hp) (by simpa using hj) rfl rfl (by rw [← w32_set]; exact hK)
theorem eMakeW {n : Int} (ho : o.op = .makeSlice t x y) {d : Nat} (hdd : o.dst = some d) (hd : Nat.ble (d + 1) N.n = true) [h : SlTy P t e (.int .u32 0) bytes] (hx : ev L x = some (.int .i64 n)) (hy : ev L y = some (.int .i64 n)) (h0 : 0 ≤ n) (hb : bytes * n.toNat ≤ 281474976710656) (h63 : n ≤ 9223372036854775807)
  (hK : ∀ A : Option Addr, K (addL d (.slice A n.toNat n.toNat) L) (ow A e n.toNat (w32 (List.replicate n.toNat 0)) :: F)) : Eff P N M w0 b o L F K := eMake ho hdd hd (h := h) hx hy h0 hb h63 (fun A => by
 have e1 : List.replicate n.toNat (Value.int .u32 0) = w32 (List.replicate n.toNat 0) := by simp [w32]
 rw [e1]; exact hK A)
theorem eAppW {A B : Option Addr} {n m c cap : Nat} {xs ys : List Int} (ho : o.op = .call { callee := .builtin .append, args := #[x, y], argTypes := #[t, t] }) {d : Nat} (hdd : o.dst = some d) (hd : Nat.ble (d + 1) N.n = true) [h : SlTy P t e z 4]
  (hx : ev L x = some (.slice A n cap)) (hy : ev L y = some (.slice B m c)) [hp : PkOw F A e cap (w32 xs) F'] [hr : Rd F B (w32 ys)] (hn : n = xs.length) (hm' : m = ys.length) (hb : xs.length + ys.length ≤ 17592186044416)
  (hK : ∀ (A' : Option Addr) (cap' : Nat), K (addL d (.slice A' (xs ++ ys).length cap') L) (ow A' e cap' (w32 (xs ++ ys)) :: F')) : Eff P N M w0 false o L F K :=
 eApp ho hdd hd (h := h) hx hy (hp := hp) (hr := hr) (by simpa using hn) (by simpa using hm') (w32_one ys) (by simp only [w32_length]; omega) (by simp only [w32_length]; omega) (fun A' cap' => by
  have h1 := hK A' cap'
  rw [w32_app, List.length_append] at h1
  rw [w32_length, w32_length]; exact h1)
theorem eLit0W (ho : o.op = .buildSlice t 0 #[]) {d : Nat} (hdd : o.dst = some d) (hd : Nat.ble (d + 1) N.n = true) [h : SlTy P t e z bytes] (hK : ∀ A : Option Addr, K (addL d (.slice A 0 0) L) (ow A e 0 (w32 []) :: F)) : Eff P N M w0 b o L F K := eLit0 ho hdd hd (h := h) hK
theorem eLit1W {n0 : Int} (ho : o.op = .buildSlice t 1 #[(0, x)]) {d : Nat} (hdd : o.dst = some d) (hd : Nat.ble (d + 1) N.n = true) [h : SlTy P t e z bytes] (hx : ev L x = some (.int .u32 n0)) (hK : ∀ A : Option Addr, K (addL d (.slice A 1 1) L) (ow A e 1 (w32 [n0]) :: F)) : Eff P N M w0 b o L F K := eLit1 ho hdd hd (h := h) hx rfl hK
theorem eLit2W {n0 n1 : Int} (ho : o.op = .buildSlice t 2 #[(0, x), (1, y)]) {d : Nat} (hdd : o.dst = some d) (hd : Nat.ble (d + 1) N.n = true) [h : SlTy P t e z bytes] (hx : ev L x = some (.int .u32 n0)) (hy : ev L y = some (.int .u32 n1)) (hK : ∀ A : Option Addr, K (addL d (.slice A 2 2) L) (ow A e 2 (w32 [n0, n1]) :: F)) : Eff P N M w0 b o L F K := eLit2 ho hdd hd (h := h) hx rfl hy rfl hK
theorem rShl32 {k' : IntKind} {m : Int} (ho : o.op = .binOp .shl t x y t') (hx : ev L x = some (.int .u64 m)) (hy : ev L y = some (.int k' 32)) (h1 : 0 ≤ m) (h2 : m < 4294967296) : Stl P N M w0 o L F (.int .u64 (m * 4294967296)) :=
 stl_pure fun a hl => by
  have h4 : min (32 : Int).toNat IntKind.u64.bits = 32 := by rfl
  have h5 : (2 : Int) ^ 32 = 4294967296 := by rfl
  have h6 := IntWalk.u64_in (m * 4294967296) ⟨by omega, by omega⟩
  simp only [execOp, ho, hl.eval hx, hl.eval hy, eqGuard, binOp, Op.shift, h4, h5, h6]
  rfl
theorem tr_nilW {N : NR} (e : TypeId) {c : Code} {Q : Exit → Fr → List Chunk → Prop} (h : Tr P N M w0 c L (ow none e 0 (w32 []) :: F) Q) : Tr P N M w0 c L F Q := tr_nil e h
theorem ro_take {A : Option Addr} {vs : List Value} (k : Nat) (F : List Chunk) : CSub (ro A vs :: F) (ro A (vs.take k) :: F) :=
 CSub.weak (c := ro A vs) (d := ro A (vs.take k)) ⟨fun w hs j hj => by
  obtain ⟨ad, h1, h2⟩ := hs j (by rw [List.length_take] at hj; omega)
  exact ⟨ad, h1, by rw [h2, List.getElem_take]⟩, fun b hb => by
  obtain ⟨hne, h⟩ := hb
  exact ⟨fun h0 => hne (by rw [h0]; simp), h⟩, fun h => h⟩ F
theorem w32_take (l : List Int) (k : Nat) : (w32 l).take k = w32 (l.take k) := by unfold w32; rw [List.map_take]
end
end Go.Proofs.Ytdkahdehodopoaa

set_option maxRecDepth 100000
namespace Go.Proofs.Ytdkahdehodopoaa
open Go.RowKit
instance tyW : ScTy Try.prog 86 := scTy_of (by kernel_rfl)
instance tyN : ScTy Try.prog 46 := scTy_of (by kernel_rfl)
instance tySlN : SlTy Try.prog 46 86 (.int .u32 0) 4 := ⟨by kernel_rfl, by kernel_rfl, rfl⟩
theorem undU32 : Try.prog.underlying 86 = some (.int .u32) := by kernel_rfl
theorem ref_Trim_ent : Enters Try.prog 45 := enters_of Try.func45 (by kernel_rfl) (by kernel_rfl)
theorem ref_Trim (X : Option Addr) (nx cx : Nat) (l : List Int) (hnx : nx = l.length) (hlnx : Lm l) (h9nx : nx ≤ 4000000) (hcx : nx ≤ cx) :
  Pure Try.prog 45 #[.slice X nx cx] [ro X (w32 l)] (one (fun v ch => ∃ B c, v = .slice B (lmb ((vN l).toNat)).length c ∧ ch = ow B 86 c (w32 (lmb ((vN l).toNat))) ∧ (lmb ((vN l).toNat)).length ≤ c)) := by
 refine pure_of (args := [.slice X nx cx]) 23 Try.func45 rfl rfl rfl ref_Trim_ent ⟨id, trivial⟩ (fun w0 => ?_)
 refine tS ?_
 refine tR fun _ _ _ => ?_
 refine pV ?_
 refine tS ?_
 refine tR fun _ _ _ => ?_
 refine pV ?_
 refine sV (rLen rfl rfl) ?_
 refine pV ?_
 refine tS ?_
 refine tB ?_
 refine tr_loop1 (fun (k : Int) => [(3, .int .i64 k), (0, .slice X nx cx), (2, .slice none 0 0)]) (fun (k : Int) => [ro X (w32 l)]) (fun (k : Int) => (0 ≤ k ∧ k ≤ nx) ∧ ∀ j, k.toNat ≤ j → l.getD j 0 = 0) (fun (k : Int) => k.toNat) (nx) ⟨rfl, rfl, rfl, trivial⟩ (by first | exact cs _ _ | exact CSub.refl _) (⟨⟨by omega, by omega⟩, fun j hj => getD_out (by omega)⟩) (fun k hI => ?_)
 obtain ⟨⟨hk0, hk1⟩, hz⟩ := hI
 refine tS ?_
 refine tS ?_
 refine tR fun _ _ _ => ?_
 iterate 3 refine pV ?_
 refine stg rfl rfl rfl rfl rfl (fun hb => by (have hq := hb; try simp only [zbA] at hq); exact rMove rfl rfl) ?_
 refine stg rfl rfl rfl rfl rfl (fun hb => by (have hq := hb; try simp only [zbA] at hq); exact rMove rfl rfl) ?_
 refine stg rfl rfl rfl rfl rfl (fun hb => by (have hq := hb; try simp only [zbA] at hq); exact rSub rfl (evg rfl hb) rfl (by omega) (by omega)) ?_
 refine stg rfl rfl rfl rfl rfl (fun hb => by (have hq := hb; try simp only [zbA] at hq); exact rIdxW rfl (evg rfl hb) (evg rfl hb) (by omega) (by omega) (by omega)) ?_
 refine stg rfl rfl rfl rfl rfl (fun hb => by (have hq := hb; try simp only [zbA] at hq); exact rLdW rfl (evg rfl hb) (by omega)) ?_
 refine stg rfl rfl rfl rfl rfl (fun hb => by (have hq := hb; try simp only [zbA] at hq); exact rEqlK rfl (evg rfl hb) rfl) ?_
 refine sV (rAndB rfl rfl rfl rfl) ?_
 refine tC rfl (fun h2 => ?_) (fun h2 => ?_)
 ·try simp only [zbA] at h2
  refine tK ?_
  refine tB ?_
  refine tR fun _ _ _ => ?_
  refine pV ?_
  refine sV (rSub rfl rfl rfl (by omega) (by omega)) ?_
  refine pV ?_
  refine ⟨k - 1, ⟨rfl, rfl, rfl, trivial⟩, by first | exact cs _ _ | exact CSub.refl _, ?_⟩
  refine ⟨⟨⟨by omega, by omega⟩, fun j hj => ?_⟩, by omega⟩
  rcases Nat.lt_or_ge j k.toNat with h | h
  ·rw [show j = (k - 1).toNat by omega]; exact h2.2
  ·exact hz j h
 ·try simp only [zbA] at h2
  refine tE ?_
  refine tS ?_
  refine tr_chunks _ (ro_take k.toNat []) ?_
  rw [w32_take]
  refine tR fun _ _ _ => ?_
  refine eV (eLit0W rfl rfl rfl  (fun A4 => ?_))
  iterate 2 refine pV ?_
  refine sV (rCutHi rfl rfl rfl (by omega) (by omega)) ?_
  refine eV (eAppW rfl rfl rfl rfl rfl (by rfl) (by rw [List.length_take]; omega) (by rw [List.length_take]; simp; omega) (fun A4a c4a => ?_))
  refine pV ?_
  rw [List.nil_append, lmb_cut hlnx (k := k.toNat) (by omega) hz (h2.elim (fun h => .inl (by omega)) (fun h => .inr (by rw [show k.toNat - 1 = (k - 1).toNat by omega]; exact h)))]
  refine tr_cap A4a 86 c4a (w32 (lmb (vN l).toNat)) fun hcap => ?_
  rw [w32_length] at hcap
  exact tr_ret ⟨trivial, _, _, rfl, ⟨_, rfl, A4a, c4a, rfl, rfl, hcap⟩, cs _ _, trivial, trivial⟩
theorem ref_NOf_ent : Enters Try.prog 16 := enters_of Try.func16 (by kernel_rfl) (by kernel_rfl)
theorem ref_NOf (n : Int) (hn0 : 0 ≤ n) (hn9 : n ≤ 18446744073709551615) :
  Pure Try.prog 16 #[.int .u64 n] [] (one (fun v ch => ∃ B c, v = .slice B (lmb (n.toNat)).length c ∧ ch = ow B 86 c (w32 (lmb (n.toNat))) ∧ (lmb (n.toNat)).length ≤ c)) := by
 refine pure_of (args := [.int .u64 n]) 11 Try.func16 rfl rfl rfl ref_NOf_ent trivial (fun w0 => ?_)
 refine tS ?_
 refine tR fun _ _ _ => ?_
 refine pV ?_
 refine tS ?_
 have hl2 : Lm [n % 4294967296, n / 4294967296] := fun x hx => by
  simp only [List.mem_cons, List.not_mem_nil, or_false] at hx
  rcases hx with rfl | rfl <;> omega
 have hv : (vN [n % 4294967296, n / 4294967296]).toNat = n.toNat := by simp only [vN]; omega
 refine tR fun _ _ _ => ?_
 refine pV ?_
 refine sV (rRemU rfl rfl rfl (by omega) (by omega)) ?_
 refine sV (rConv rfl undU64 undU32 rfl (IntWalk.u32_in _ ⟨by omega, by omega⟩)) ?_
 refine pV ?_
 refine sV (rQuoU rfl rfl rfl (by omega) (by omega)) ?_
 refine sV (rConv rfl undU64 undU32 rfl (IntWalk.u32_in _ ⟨by omega, by omega⟩)) ?_
 refine eV (eLit2W rfl rfl rfl rfl rfl (fun A1 => ?_))
 refine eV (eCall1 rfl rfl rfl (ref_Trim A1 2 2 [n % 4294967296, n / 4294967296] rfl hl2 (by omega) (by omega)) ⟨rfl, trivial⟩ ?_)
 rintro _ _ ⟨B1a, c1a, rfl, rfl, hc1a⟩
 refine pV ?_
 rw [hv] at hc1a ⊢
 exact tr_ret ⟨trivial, _, _, rfl, ⟨_, rfl, B1a, c1a, rfl, rfl, hc1a⟩, cs _ _, trivial, trivial⟩
end Go.Proofs.Ytdkahdehodopoaa

set_option maxRecDepth 100000
namespace Go.Proofs.Ytdkahdehodopoaa
open Go.RowKit
end Go.Proofs.Ytdkahdehodopoaa

namespace Go.Proofs.Ytdkahdehodopoaa
open Go.RowKit
section
variable {P : Program} {b : Frame} {a : Act} {k : List Item} {cs : List Frame} {w : World} {Q : Exit → Act → World → Prop} {Fc : Fence} {nn : Nat}
theorem stepR_scope {c : Code} : step P (lone (b.atR a (.code (.scope c) :: k)) cs w) = .next (lone (b.atR a (.code c :: .inScope c :: k)) cs w) :=
 step_lone_go (by simp [stepG, stepG.exec, Frame.atR, Frame.at])
theorem stepR_inScope {c : Code} : step P (lone (b.atR a (.inScope c :: k)) cs w) = .next (lone (b.atR a k) cs w) :=
 step_lone_go (by simp [stepG, stepG.exec, Frame.atR, Frame.at])
theorem wpIn_scope {c : Code} (h : c.wpIn Fc nn P (Exit.noGoto Q) a w) : (Code.scope c).wpIn Fc nn P Q a w := by
 intro b k cs hro hb hr
 have h0 : (lone (b.atR a (.code (.scope c) :: k)) cs w).fenced P Fc := fenced_calm hb hr rfl
 obtain ⟨e, a₁, w₁, hq, harr⟩ := h b (.inScope c :: k) cs hro hb hr
 cases e with
 | normal => exact ⟨.normal, a₁, w₁, hq, .head h0 stepR_scope (StepsIn.trans harr (.one (fenced_calm hb hr rfl) stepR_inScope))⟩
 | exit id =>
  have hx : exitTo id (.inScope c :: k) = exitTo id k := by simp [exitTo]
  exact ⟨.exit id, a₁, w₁, hq, fun k' hk => .head h0 stepR_scope (harr.1 k' (by rw [hx]; exact hk)),
   fun hr' hk => let ⟨k₁, h1, h2⟩ := harr.2 hr' (by rw [hx]; exact hk); ⟨k₁, h1, .head h0 stepR_scope h2⟩⟩
 | goto l => exact hq.elim
 | ret => exact ⟨_, a₁, w₁, hq, .of_steps (.one h0 stepR_scope) harr⟩
 | panic ch => exact ⟨_, a₁, w₁, hq, .of_steps (.one h0 stepR_scope) harr⟩
 | outgrown => exact ⟨_, a₁, w₁, hq, .of_steps (.one h0 stepR_scope) harr⟩
end
def noGo (Q : Exit → Fr → List Chunk → Prop) : Exit → Fr → List Chunk → Prop
 | .goto _ => fun _ _ => False
 | e => Q e
theorem tr_scope {P : Program} {N : NR} {M : Nat → Prop} {w0 : World} {L : Fr} {F : List Chunk} {c : Code} {Q : Exit → Fr → List Chunk → Prop} (h : Tr P N M w0 c L F (noGo Q)) : Tr P N M w0 (.scope c) L F Q := fun ds M1 w1 hb a w hl hm => by
 refine wpIn_scope (wpIn_mono (h ds M1 w1 hb a w hl hm) fun e a' w' hq => ?_)
 obtain ⟨ds', M2, w2, hb', L', F', h1, h2, h3⟩ := hq
 cases e with
 | goto l => exact h3.elim
 | _ => exact ⟨ds', M2, w2, hb', L', F', h1, h2, h3⟩
def prs (ps : List (Value × Value)) : List Value := ps.flatMap fun p => [p.1, p.2]
@[simp] theorem prs_length : ∀ ps, (prs ps).length = ps.length * 2
 | [] => rfl
 | p :: ps => by
  have := prs_length ps
  unfold prs at this ⊢
  rw [List.flatMap_cons, List.length_append, this, List.length_cons]; simp; omega
theorem prs_app (ps qs : List (Value × Value)) : prs (ps ++ qs) = prs ps ++ prs qs := by unfold prs; rw [List.flatMap_append]
def prD : Value × Value := (.int .i64 0, .int .i64 0)
theorem prs_get : ∀ (ps : List (Value × Value)) (j : Nat), j < ps.length → (prs ps)[j * 2]? = some (ps.getD j prD).1 ∧ (prs ps)[j * 2 + 1]? = some (ps.getD j prD).2
 | [], j, h => by simp at h
 | p :: ps, 0, _ => ⟨rfl, rfl⟩
 | p :: ps, j + 1, h => by
  have := prs_get ps j (by simpa using h)
  unfold prs at this ⊢
  rw [List.flatMap_cons, List.getD_cons_succ, show (j + 1) * 2 = j * 2 + 2 by omega, show j * 2 + 2 + 1 = j * 2 + 1 + 2 by omega]
  simpa using this
def ow2 (A : Option Addr) (e : TypeId) (cap : Nat) (ps : List (Value × Value)) : Chunk where
 foot b := ∃ ad, A = some ad ∧ ad.block = b
 excl := True
 sat w := w.ownsRow 0 e 2 (.slice A ps.length cap) ps.length (prs ps)
 loc w w' h hs := by
  obtain ⟨h0, h1⟩ := hs
  refine ⟨h0, ?_⟩
  rcases h1 with h1 | ⟨g, c, cur, hv, hb, hh, hr⟩
  ·exact .inl h1
  ·refine .inr ⟨g, c, cur, hv, hb, ?_, hr⟩
   simp only [Value.slice.injEq] at hv
   rw [h g ⟨_, hv.1, rfl⟩]
   exact hh
 cel w b hs hb := by
  obtain ⟨ad, rfl, rfl⟩ := hb
  rcases hs.2 with ⟨h1, _⟩ | ⟨g, c, cur, hv, hb, hh, _⟩
  ·cases h1
  ·simp only [Value.slice.injEq, Option.some.injEq] at hv
   rw [hv.1]
   exact ⟨_, hh, rfl⟩
theorem ow2_reads {A : Option Addr} {e : TypeId} {cap : Nat} {ps : List (Value × Value)} {w : World} (h : (ow2 A e cap ps).sat w) : (ro A (prs ps)).sat w := by
 intro j hj
 rcases h.2 with ⟨_, h0⟩ | ⟨g, c, cur, hv, _⟩
 ·rw [prs_length] at hj; omega
 ·simp only [Value.slice.injEq] at hv
  obtain ⟨rfl, _⟩ := hv
  exact ⟨_, rfl, World.ownsRow.cells h (g := g) rfl j _ (List.getElem?_eq_getElem hj)⟩
instance Rd.ofOw2 (F : List Chunk) (A : Option Addr) (e : TypeId) (cap : Nat) (ps : List (Value × Value)) : Rd (ow2 A e cap ps :: F) A (prs ps) := ⟨fun _ _ _ hm => ow2_reads (hm.sat _ (List.mem_cons_self ..)), fun b hb => ⟨_, List.mem_cons_self .., hb.2⟩⟩
class PkO2 (F : List Chunk) (A : Option Addr) (e : outParam TypeId) (cap : outParam Nat) (ps : outParam (List (Value × Value))) (F' : outParam (List Chunk)) : Prop where
 perm : F.Perm (ow2 A e cap ps :: F')
instance PkO2.head (F : List Chunk) (A : Option Addr) (e : TypeId) (cap : Nat) (ps : List (Value × Value)) : PkO2 (ow2 A e cap ps :: F) A e cap ps F := ⟨List.Perm.refl _⟩
instance PkO2.tail (c : Chunk) (F F' : List Chunk) (A : Option Addr) (e : TypeId) (cap : Nat) (ps : List (Value × Value)) [h : PkO2 F A e cap ps F'] : PkO2 (c :: F) A e cap ps (c :: F') := ⟨(h.perm.cons c).trans (List.Perm.swap ..)⟩
class S2Ty (P : Program) (t : TypeId) (e : outParam TypeId) (bytes : outParam Nat) : Prop where
 und : P.underlying t = some (.slice e)
 inf : ∃ z, (P.info? e).map (fun i => (i.zero, i.size, i.bytes)) = some (some z, 2, bytes) ∧ z.cells.size = 2
section
variable {P : Program} {N : NB} {M : Nat → Prop} {w0 : World} {L : Fr} {F F' : List Chunk} {K : Fr → List Chunk → Prop} {b : Bool} {o : Oper} {v : Value} {x y : Operand} {t t' e : TypeId} {k bytes : Nat}
theorem nil_mem2 (e : TypeId) {w : World} (hm : Mem M w0 w F) : Mem M w0 w (ow2 none e 0 [] :: F) := by
 refine ⟨hm.upd, fun c hc => ?_, List.pairwise_cons.2 ⟨fun c _ _ b' hb' => ?_, hm.sep⟩, fun c hc hex b' hb' => ?_⟩
 ·rcases List.mem_cons.1 hc with rfl | hc
  ·exact World.ownsRow_nil _ _ _ _
  ·exact hm.sat c hc
 ·obtain ⟨ad, h1, _⟩ := hb'; cases h1
 ·rcases List.mem_cons.1 hc with rfl | hc
  ·obtain ⟨ad, h1, _⟩ := hb'; cases h1
  ·exact hm.own c hc hex b' hb'
theorem tr_nil2 {N : NR} (e : TypeId) {c : Code} {Q : Exit → Fr → List Chunk → Prop} (h : Tr P N M w0 c L (ow2 none e 0 [] :: F) Q) : Tr P N M w0 c L F Q := fun ds M1 w1 hb a w hl hm => h ds M1 w1 hb a w hl (nil_mem2 e hm)
theorem rIdxT {A : Option Addr} {n c : Nat} {i : Int} {vs : List Value} (ho : o.op = .indexAddr t x y) [h : SsTy P t e 2] (hx : ev L x = some (.slice A n c)) (hy : ev L y = some (.int .i64 i)) [hr : Rd F A vs] (h0 : 0 ≤ i) (h1 : i < n) (h2 : i.toNat * 2 < vs.length) : Stl P N M w0 o L F (.pointer (some ((A.getD a0).add (i.toNat * 2)))) := fun a w hl hm => by
 obtain ⟨ad, rfl, _⟩ := hr.rd M w0 w hm _ h2
 simp [execOp, ho, hl.eval hx, hl.eval hy, Instr.indexAt, asIntOf, run_und h.und, h0, h1, run_size1 h.size]
theorem rLdT {A : Option Addr} {j : Nat} {ps : List (Value × Value)} (ho : o.op = .load t x) [h : AgTy P t 2] (hx : ev L x = some (.pointer (some ((A.getD a0).add (j * 2))))) [hr : Rd F A (prs ps)] (hj : j < ps.length) : Stl P N M w0 o L F (.agg #[(ps.getD j prD).1, (ps.getD j prD).2]) := fun a w hl hm => by
 obtain ⟨fs, hu⟩ := h.und
 have hrd := hr.rd M w0 w hm
 have hg := prs_get ps j hj
 obtain ⟨ad, rfl, _⟩ := hrd (j * 2) (by rw [prs_length]; omega)
 have hag : (isAgg t).run P w = .ok true w := by simp [isAgg, run_und hu]
 have hld : (loadCells (ad.add (j * 2)) 2).run P w = .ok #[(ps.getD j prD).1, (ps.getD j prD).2] w := by
  have h0 := loadCellsFrom_ok (P := P) (w := w) (ad := ad.add (j * 2)) [(ps.getD j prD).1, (ps.getD j prD).2] 0 #[] (fun i hi => by
   have hi2 : i < 2 := by simpa using hi
   obtain ⟨ad', h1, hc⟩ := hrd (j * 2 + i) (by rw [prs_length]; omega)
   simp only [Option.some.injEq] at h1
   subst h1
   rw [Nat.zero_add, add_add, hc]
   have h3 : (prs ps)[j * 2 + i]? = some ([(ps.getD j prD).1, (ps.getD j prD).2][i]) := by
    rcases Nat.lt_or_ge i 1 with h4 | h4
    ·have : i = 0 := by omega
     subst this; exact hg.1
    ·have : i = 1 := by omega
     subst this; exact hg.2
   rw [← h3, List.getElem?_eq_getElem])
  simpa [loadCells] using h0
 have hsz := run_size1 h.inf w
 simp [execOp, ho, hl.eval hx, Instr.loadAt, Instr.sureAddr, loadVar, hag, hsz, hld]
theorem eApp2 {A : Option Addr} {B : Addr} {n c cap : Nat} {ps : List (Value × Value)} {u0 u1 : Value} (ho : o.op = .call { callee := .builtin .append, args := #[x, y], argTypes := #[t, t] }) {d : Nat} (hdd : o.dst = some d) (hd : Nat.ble (d + 1) N.n = true) [h : S2Ty P t e bytes]
  (hx : ev L x = some (.slice A n cap)) (hy : ev L y = some (.slice (some B) 1 c)) [hp : PkO2 F A e cap ps F'] [hr : Rd F (some B) [u0, u1]] (hn : n = ps.length) (hone : [u0, u1].all (·.oneCell') = true) (hb : (ps.length + 1) * bytes ≤ 140737488355328) (hlen : ps.length + 1 ≤ 1000000000)
  (hK : ∀ (A' : Option Addr) (cap' : Nat), K (addL d (.slice A' (ps ++ [(u0, u1)]).length cap') L) (ow2 A' e cap' (ps ++ [(u0, u1)]) :: F')) : Eff P N M w0 false o L F K := fun a w hl hm => by
 subst hn
 obtain ⟨z, hzi, hzs⟩ := h.inf
 obtain ⟨i, hi, hz, hs, hby⟩ : ∃ i, P.info? e = some i ∧ i.zero = some z ∧ i.size = 2 ∧ i.bytes = bytes := by
  cases hi : P.info? e with
  | none => simp [hi] at hzi
  | some i =>
   simp only [hi, Option.map_some, Option.some.injEq, Prod.mk.injEq] at hzi
   exact ⟨i, rfl, hzi.1, hzi.2.1, hzi.2.2⟩
 have hmp := hm.perm hp.perm
 have hown : w.ownsRow 0 e 2 (.slice A ps.length cap) ps.length (prs ps) := hmp.sat _ (List.mem_cons_self ..)
 have hcells := hr.rd M w0 w hm
 obtain ⟨v', w', h1, h2, h3, _, h5⟩ := run_append_own_at (P := P) w 0 t o.type e i z 2 bytes h.und hi hz hs hby hzs (by omega) (.slice A ps.length cap) ps.length (prs ps) hown B 1 c [u0, u1] rfl
  (fun j u hu => by
   obtain ⟨hj, rfl⟩ := List.getElem?_eq_some_iff.1 hu
   obtain ⟨ad', h1, h2⟩ := hcells j hj
   simp only [Option.some.injEq] at h1
   subst h1
   exact h2) (fun u hu => List.all_eq_true.1 hone u hu) (by simp only [maxLen]; omega) hb (Nat.zero_le _)
 obtain ⟨A', cap', rfl, h6⟩ : ∃ A' cap', v' = .slice A' (ps.length + 1) cap' ∧ (∀ ad, A' = some ad → A = some ad ∨ ad.block = w.heap.size) := by
  rcases h2.2 with ⟨rfl, h0⟩ | ⟨g, cp, cur, rfl, _⟩
  ·omega
  ·refine ⟨_, _, rfl, fun ad had => ?_⟩
   simp only [Option.some.injEq] at had
   subst had
   rcases h5 with h5 | h5
   ·left
    rcases hown.2 with ⟨h3, _⟩ | ⟨g', cp', cur', h3, _⟩
    ·rw [h3] at h5; simp [Value.ownBlock] at h5
    ·simp only [Value.slice.injEq] at h3
     obtain ⟨rfl, _⟩ := h3
     simp only [Value.ownBlock, Option.some.injEq] at h5
     rw [h5]
   ·right
    simpa [Value.ownBlock] using h5
 have hrun : (execOp a.eval o).run P w = .ok (.value (.slice A' (ps.length + 1) cap')) w' := by
  simp only [execOp, ho, resolve, invoke, builtin, Sem.run_bind, Sem.run_pure, Result.andThen_ok, List.map_toArray, List.map_cons, List.map_nil, hl.eval hx, hl.eval hy, h1]
 simp only [Oper.wp, hrun, Oper.upon_value]
 have hK' := hK A' cap'
 rw [List.length_append] at hK'
 refine ⟨fun hc => absurd hc (by simp), _, _, hl.add hdd hd _, ?_, hK'⟩
 have hlen' : (ps ++ [(u0, u1)]).length = ps.length + 1 := by simp
 refine hmp.change (by exact trivial) ⟨h3.os, h3.tape, h3.output, h3.size, fun k hk hc => h3.block k hk (fun hkb => hc ?_)⟩ (by
  show w'.ownsRow 0 e 2 (.slice A' (ps ++ [(u0, u1)]).length cap') (ps ++ [(u0, u1)]).length (prs (ps ++ [(u0, u1)]))
  rw [hlen', prs_app]; exact h2) (fun b' hb' => ?_)
 ·cases A with
  | none => simp [Value.ownBlock] at hkb
  | some ad => exact ⟨ad, rfl, by simpa [Value.ownBlock] using hkb.symm⟩
 ·obtain ⟨ad, rfl, rfl⟩ := hb'
  rcases h6 ad rfl with h7 | h7
  ·exact .inl ⟨ad, h7, rfl⟩
  ·exact .inr (by omega)
theorem eLit3I {n0 n1 n2 : Int} {x2 : Operand} {z : Value} (ho : o.op = .buildSlice t 3 #[(0, x), (1, y), (2, x2)]) {d : Nat} (hdd : o.dst = some d) (hd : Nat.ble (d + 1) N.n = true) [h : SlTy P t e z bytes] (hx : ev L x = some (.int .i64 n0)) (hy : ev L y = some (.int .i64 n1)) (hx2 : ev L x2 = some (.int .i64 n2)) (hK : ∀ A : Option Addr, K (addL d (.slice A 3 3) L) (ow A e 3 (ints [n0, n1, n2]) :: F)) : Eff P N M w0 b o L F K :=
 eLit_of (e := e) (vs := [.int .i64 n0, .int .i64 n1, .int .i64 n2]) ho hdd hd rfl (by omega) (fun a w hl => by
  refine run_lit w h (by omega) (by omega) ?_
  simp [hl.eval hx, hl.eval hy, hl.eval hx2, Instr.fill, int_cells, Array.range_succ, range0]) hK
end
end Go.Proofs.Ytdkahdehodopoaa

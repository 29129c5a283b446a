/-
  CYCLICQUASI, PART 5 OF 8. One sentence: the texts behind the law CyclicQuasi, put together.
  Conditions: each theorem's own, written out in it.
-/
import Derived.Test.YtdkahdehodopoaaRows
import Derived.Test.YtdkahdehodopoaaK4
set_option linter.unusedSimpArgs false
set_option linter.unusedVariables false
set_option linter.unusedSectionVars false
set_option maxRecDepth 100000
namespace Go.Proofs.Ytdkahdehodopoaa
open Go.RowKit
theorem row_flat {rs : List RowM} {r : RowM} (h : r ∈ rs) : r.xs.length ≤ (flat rs).length := by
 induction rs with
 | nil => cases h
 | cons s rs ih =>
  rw [flat, List.flatMap_cons, List.length_append]
  rcases List.mem_cons.1 h with rfl | h
  ·omega
  ·have := ih h; rw [flat] at this; omega
theorem all_getD {α : Type} {l : List α} {d : α} {φ : α → Prop} (h : ∀ z : Nat, z < l.length → φ (l.getD z d)) : ∀ c ∈ l, φ c := fun c hc => by
 obtain ⟨z, hz, rfl⟩ := List.getElem_of_mem hc
 have := h z hz
 rwa [List.getD_eq_getElem?_getD, List.getElem?_eq_getElem hz] at this
theorem quo64 {L : Nat} {k : Int} (h0 : L ≠ 0) : 64 / (L : Int) < k ↔ 64 < (L : Int) * k := by
 rw [Int.ediv_lt_iff_lt_mul (by omega), Int.mul_comm]
theorem len64 {L : Nat} {k n : Int} (hk : ¬ k < 1) (hn : n = L * k) : (n < 1 ∨ 64 < n) ↔ (L = 0 ∨ 64 < (L : Int) * k) := by
 rw [← hn]
 constructor
 ·rintro (h | h)
  ·rcases Nat.eq_zero_or_pos L with h0 | h0
   ·exact .inl h0
   ·have := Int.mul_pos (show (0 : Int) < L by omega) (show 0 < k by omega)
    omega
  ·exact .inr h
 ·rintro (h | h)
  ·subst h; left; rw [hn]; omega
  ·exact .inr h
theorem cd_nil {p m : Int} {mod : List Int} [hF : IsF p m mod] (u : Vc (El p m mod)) : Vc.SpL (vsR [] : List (Vc (El p m mod))) u ↔ Vc.SpL (quV p m mod []) u := Iff.rfl
theorem ro_nil2 (F : List Chunk) : CSub F (rx none (ints []) :: rx none (hdrs []) :: rowsX [] :: F) := fun M w0 w Z hm => by
 have h0 : ∀ c, (c = rx none (ints []) ∨ c = rx none (hdrs []) ∨ c = rowsX []) → c.sat w ∧ ∀ b, ¬ c.foot b := by
  rintro c (rfl | rfl | rfl)
  ·exact ⟨fun j hj => by simp [ints] at hj, fun b hb => absurd rfl hb.1⟩
  ·exact ⟨fun j hj => by simp [hdrs] at hj, fun b hb => absurd rfl hb.1⟩
  ·exact ⟨fun r hr => by simp at hr, fun b ⟨r, hr, _⟩ => by simp at hr⟩
 refine ⟨hm.upd, fun c hc => ?_, ?_, fun c hc hex b hb => ?_⟩
 ·simp only [List.cons_append, List.mem_cons] at hc
  rcases hc with hc | hc | hc | hc
  ·exact (h0 c (.inl hc)).1
  ·exact (h0 c (.inr (.inl hc))).1
  ·exact (h0 c (.inr (.inr hc))).1
  ·exact hm.sat c hc
 ·simp only [List.cons_append]
  refine List.pairwise_cons.2 ⟨fun c _ _ b hb => absurd hb ((h0 _ (.inl rfl)).2 b), List.pairwise_cons.2 ⟨fun c _ _ b hb => absurd hb ((h0 _ (.inr (.inl rfl))).2 b), List.pairwise_cons.2 ⟨fun c _ _ b hb => absurd hb ((h0 _ (.inr (.inr rfl))).2 b), hm.sep⟩⟩⟩
 ·simp only [List.cons_append, List.mem_cons] at hc
  rcases hc with hc | hc | hc | hc
  ·exact absurd hb ((h0 c (.inl hc)).2 b)
  ·exact absurd hb ((h0 c (.inr (.inl hc))).2 b)
  ·exact absurd hb ((h0 c (.inr (.inr hc))).2 b)
  ·exact hm.own c hc hex b hb
theorem qrow_app {c0 : Chunk} {e : TypeId} {B : Option Addr} {cb : Nat} {vs : List Value} {qs : List RowM} {r : RowM} {F F0 : List Chunk} [h : Cs F (c0 :: rowsR qs :: ro r.A (ints r.xs) :: ow B e cb vs :: F0)] : CSub F (c0 :: rowsR (qs ++ [r]) :: ro B vs :: F0) :=
 h.sub.trans (CSub.cons _ ((rowsR_snoc _).trans (CSub.cons _ (ow_ro _))))
theorem flats_get {us : List CubM} {fs : List RowM} {n j : Nat} (h : xss fs = (us.take n).map fun c => flat c.rs) (hj : j < n) (hn : n ≤ us.length) : (fs.getD j rowD).xs = flat (us.getD j cubD).rs := by
 have h1 := congrArg (fun l => l.getD j []) h
 simp only [xss_getD] at h1
 rw [h1, List.getD_eq_getElem?_getD, List.getElem?_map, List.getElem?_take_of_lt hj, List.getD_eq_getElem?_getD, List.getElem?_eq_getElem (by omega)]
 rfl
theorem flats_snoc {us : List CubM} {fs : List RowM} {i : Nat} {A : Option Addr} {c : Nat} (h : xss fs = (us.take i).map fun c => flat c.rs) (hi : i < us.length) : xss (fs ++ [⟨A, c, flat (us.getD i cubD).rs⟩]) = (us.take (i + 1)).map fun c => flat c.rs := by
 rw [xss_snoc, h, List.take_add_one, List.getElem?_eq_getElem hi, Option.toList_some, List.map_append, List.getD_eq_getElem?_getD, List.getElem?_eq_getElem hi]; rfl
theorem ref_QuasiArgs_ent : Enters Try.prog 6 := enters_of Try.func6 (by kernel_rfl) (by kernel_rfl)
theorem ref_QuasiArgs (p m : Int) (A : Option Addr) (c : Nat) (mod : List Int) (hl9 : mod.length ≤ 17592186044415) (k : Int) (U : Option Addr) (nu cu : Nat) (us : List CubM) (hnu : nu = us.length) (hu9 : us.length ≤ 20) (hb : ∀ c ∈ us, c.rs.length ≤ 1048576 ∧ (flat c.rs).length ≤ 1048576) :
  Pure Try.prog 6 #[.agg #[.int .i64 p, .int .i64 m, .slice A mod.length c], .int .i64 k, .slice U nu cu] [ro A (ints mod), ro U (cubH us), cubR us] (isV (.int .i64 (quE p m mod k us))) := by
 refine pure_of (args := [.agg #[.int .i64 p, .int .i64 m, .slice A mod.length c], .int .i64 k, .slice U nu cu]) 93 Try.func6 rfl rfl rfl ref_QuasiArgs_ent ⟨id, id, id, trivial⟩ (fun w0 => ?_)
 refine tS ?_
 refine tR fun _ _ _ => ?_
 refine eV (eBox rfl rfl rfl rfl rfl (fun p0 => ?_))
 refine pV ?_
 refine tS ?_
 refine tS ?_
 refine tR fun _ _ _ => ?_
 refine sV (rLdS rfl rfl rfl) ?_
 refine eV (eCallV rfl rfl rfl (ref_fldCheck _ _ _ _ _ hl9) ⟨rfl, trivial⟩ ?_)
 refine pV ?_
 refine tC rfl (fun h1 => ?_) (fun h1 => ?_)
 ·try simp only [zbA] at h1
  have hF0 : ¬ FldR p m mod := fun h => by rw [chkF_ok h] at h1; omega
  refine tS ?_
  refine tR fun _ _ _ => ?_
  refine pV ?_
  exact tr_ret ⟨trivial, _, _, rfl, ⟨by rw [quE_no hF0], rfl⟩, CSub.nil _, trivial⟩
 ·try simp only [zbA] at h1
  have hF0 : FldR p m mod := Classical.byContradiction fun h => by rw [chkF_no h] at h1; omega
  haveI hF : IsF p m mod := ⟨hF0⟩
  have hord := hF.ord
  refine tK ?_
  refine tS ?_
  refine tS ?_
  refine tR fun _ _ _ => ?_
  iterate 2 refine pV ?_
  refine tC rfl (fun h3 => ?_) (fun h3 => ?_)
  ·try simp only [zbA] at h3
   refine tS ?_
   refine tR fun _ _ _ => ?_
   refine pV ?_
   exact tr_ret ⟨trivial, _, _, rfl, ⟨by rw [quE_k hF0 h3], rfl⟩, CSub.nil _, trivial⟩
  ·try simp only [zbA] at h3
   refine tK ?_
   refine tS ?_
   refine tS ?_
   refine tR fun _ _ _ => ?_
   refine pV ?_
   refine sV (rLen rfl rfl) ?_
   refine pV ?_
   refine tC rfl (fun h5 => ?_) (fun h5 => ?_)
   ·try simp only [zbA] at h5
    refine tS ?_
    refine tR fun _ _ _ => ?_
    refine pV ?_
    exact tr_ret ⟨trivial, _, _, rfl, ⟨by rw [quE_nil hF0 h3 (List.length_eq_zero_iff.1 (by omega))], rfl⟩, CSub.nil _, trivial⟩
   ·try simp only [zbA] at h5
    have hne : us ≠ [] := fun h => by subst h; simp at hnu; omega
    refine tK ?_
    refine tS ?_
    refine tS ?_
    refine tR fun _ _ _ => ?_
    refine pV ?_
    refine tB ?_
    refine tr_loop1 (fun (i : Int) => [(7, .int .i64 i), (1, .int .i64 k), (2, .slice U nu cu), (3, .pointer (some p0))]) (fun (i : Int) => [cubR us, blk p0 24 [.int .i64 p, .int .i64 m, .slice A mod.length c], ro A (ints mod), ro U (cubH us)]) (fun (i : Int) => (0 ≤ i ∧ i ≤ nu) ∧ ∀ z : Nat, (z : Int) < i → (us.getD z cubD).rs.length = (us.getD 0 cubD).rs.length ∧ ∀ r ∈ (us.getD z cubD).rs, (r.xs.length : Int) = k) (fun (i : Int) => (nu - i).toNat) (0) ⟨rfl, rfl, rfl, rfl, trivial⟩ (by first | exact cs _ _ | exact CSub.refl _) (⟨⟨by omega, by omega⟩, fun z hz => by omega⟩) (fun i hI => ?_)
    obtain ⟨⟨hi0, hi1⟩, hsh⟩ := hI
    refine tS ?_
    refine tS ?_
    refine tR fun _ _ _ => ?_
    iterate 2 refine pV ?_
    refine sV (rLen rfl rfl) ?_
    refine pV ?_
    refine tC rfl (fun h8 => ?_) (fun h8 => ?_)
    ·try simp only [zbA] at h8
     refine tK ?_
     refine tS ?_
     refine tB ?_
     refine tS ?_
     refine tS ?_
     refine tr_draw [0, 1, 2, 3, 4, 5, 6, 7, 8, 9] [] mixed (by kernel_rfl) fun _ _ _ => ?_
     iterate 2 refine pV ?_
     refine sV (rIdx rfl rfl rfl (by omega) (by omega) (by simp; omega)) ?_
     refine sV (rLdC rfl rfl (by omega)) ?_
     refine sV (rLen rfl rfl) ?_
     refine pV ?_
     refine sV (rIdx rfl rfl rfl (by omega) (by omega) (by simp; omega)) ?_
     refine sV (rLdC rfl rfl (by omega)) ?_
     refine sV (rLen rfl rfl) ?_
     refine pV ?_
     simp only [Int.toNat_zero]
     refine tC rfl (fun h10 => ?_) (fun h10 => ?_)
     ·try simp only [zbA] at h10
      refine tS ?_
      refine tR fun _ _ _ => ?_
      refine pV ?_
      exact tr_ret ⟨trivial, _, _, rfl, ⟨by rw [quE_shape hF0 h3 fun h => h10 (by have := (h (us.getD i.toNat cubD) (getD_mem (by omega) cubD)).1; omega)], rfl⟩, CSub.nil _, trivial⟩
     ·try simp only [zbA] at h10
      refine tK ?_
      refine tS ?_
      haveI : InB i.toNat us.length := ⟨by omega⟩
      have hui : (us.getD i.toNat cubD) ∈ us := getD_mem (by omega) cubD
      obtain ⟨hui8, hui9⟩ := hb _ hui
      refine tr_chunks _ ((cs _ [cubR us, blk p0 24 [.int .i64 p, .int .i64 m, .slice A mod.length c], ro A (ints mod), ro U (cubH us)]).trans (cub_out hui _)) ?_
      refine tR fun _ _ _ => ?_
      refine pV ?_
      refine tB ?_
      refine tr_loop1 (fun (j : Int) => [(8, .int .i64 j), (1, .int .i64 k), (2, .slice U nu cu), (3, .pointer (some p0)), (7, .int .i64 i), (19, .int .i64 i), (20, .slice U nu cu), (21, .int .i64 nu), (25, .slice U nu cu), (26, .int .i64 i), (30, .slice U nu cu)]) (fun (j : Int) => [ro (us.getD i.toNat cubD).A (hdrs (us.getD i.toNat cubD).rs), rowsR (us.getD i.toNat cubD).rs, cubR us, blk p0 24 [.int .i64 p, .int .i64 m, .slice A mod.length c], ro A (ints mod), ro U (cubH us)]) (fun (j : Int) => (0 ≤ j ∧ j ≤ (us.getD i.toNat cubD).rs.length) ∧ ∀ z : Nat, (z : Int) < j → (((us.getD i.toNat cubD).rs.getD z rowD).xs.length : Int) = k) (fun (j : Int) => ((us.getD i.toNat cubD).rs.length - j).toNat) (0) ⟨rfl, rfl, rfl, rfl, rfl, rfl, rfl, rfl, rfl, rfl, rfl, trivial⟩ (by first | exact cs _ _ | exact CSub.refl _) (⟨⟨by omega, by omega⟩, fun z hz => by omega⟩) (fun j hI => ?_)
      obtain ⟨⟨hj0, hj1⟩, hsj⟩ := hI
      refine tS ?_
      refine tS ?_
      refine tR fun _ _ _ => ?_
      iterate 3 refine pV ?_
      refine sV (rIdx rfl rfl rfl (by omega) (by omega) (by simp; omega)) ?_
      refine sV (rLdC rfl rfl (by omega)) ?_
      refine sV (rLen rfl rfl) ?_
      refine pV ?_
      refine tC rfl (fun h13 => ?_) (fun h13 => ?_)
      ·try simp only [zbA] at h13
       refine tK ?_
       refine tS ?_
       refine tB ?_
       refine tS ?_
       haveI : InB j.toNat (us.getD i.toNat cubD).rs.length := ⟨by omega⟩
       refine tR fun _ _ _ => ?_
       iterate 2 refine pV ?_
       refine sV (rIdx rfl rfl rfl (by omega) (by omega) (by simp; omega)) ?_
       refine sV (rLdC rfl rfl (by omega)) ?_
       refine pV ?_
       refine sV (rIdxR rfl rfl rfl (by omega) (by omega) (by omega)) ?_
       refine sV (rLdR rfl rfl (by omega)) ?_
       refine sV (rLen rfl rfl) ?_
       iterate 2 refine pV ?_
       refine tC rfl (fun h15 => ?_) (fun h15 => ?_)
       ·try simp only [zbA] at h15
        refine tS ?_
        refine tR fun _ _ _ => ?_
        refine pV ?_
        exact tr_ret ⟨trivial, _, _, rfl, ⟨by rw [quE_shape hF0 h3 fun h => h15 (by have := (h _ hui).2 _ (getD_mem (show j.toNat < (us.getD i.toNat cubD).rs.length by omega) rowD); omega)], rfl⟩, CSub.nil _, trivial⟩
       ·try simp only [zbA] at h15
        refine tK ?_
        refine tR fun _ _ _ => ?_
        refine pV ?_
        refine sV (rAdd rfl rfl rfl (by omega) (by omega)) ?_
        refine pV ?_
        refine ⟨j + 1, ⟨rfl, rfl, rfl, rfl, rfl, rfl, rfl, rfl, rfl, rfl, rfl, trivial⟩, by first | exact cs _ _ | exact CSub.refl _, ?_⟩
        refine ⟨⟨⟨by omega, by omega⟩, fun z hz => ?_⟩, by omega⟩
        by_cases he : (z : Int) = j
        ·have : z = j.toNat := by omega
         subst this; omega
        ·exact hsj z (by omega)
      ·try simp only [zbA] at h13
       refine tE ?_
       refine tR fun _ _ _ => ?_
       refine pV ?_
       refine sV (rAdd rfl rfl rfl (by omega) (by omega)) ?_
       refine pV ?_
       refine ⟨i + 1, ⟨rfl, rfl, rfl, rfl, trivial⟩, by first | exact cs _ _ | exact CSub.refl _, ?_⟩
       refine ⟨⟨⟨by omega, by omega⟩, fun z hz => ?_⟩, by omega⟩
       by_cases he : (z : Int) = i
       ·have : z = i.toNat := by omega
        subst this
        exact ⟨by omega, all_getD (d := rowD) fun y hy => hsj y (by omega)⟩
       ·exact hsh z (by omega)
    ·try simp only [zbA] at h8
     refine tE ?_
     refine tS ?_
     refine tS ?_
     have hS : quS k us := all_getD (d := cubD) fun z hz => hsh z (by omega)
     have hq64 := @quo64 (us.getD 0 cubD).rs.length k
     refine tR fun _ _ _ => ?_
     refine pV ?_
     refine sV (rIdx rfl rfl rfl (by omega) (by omega) (by simp; omega)) ?_
     refine sV (rLdC rfl rfl (by omega)) ?_
     refine sV (rLen rfl rfl) ?_
     iterate 2 refine pV ?_
     refine stg rfl rfl rfl rfl rfl (fun hb => by (have hq := hb; try simp only [zbA] at hq); exact rMove rfl rfl) ?_
     refine stg rfl rfl rfl rfl rfl (fun hb => by (have hq := hb; try simp only [zbA] at hq); exact rMove rfl rfl) ?_
     refine stg rfl rfl rfl rfl rfl (fun hb => by (have hq := hb; try simp only [zbA] at hq); exact rIdx rfl (evg rfl hb) rfl (by omega) (by omega) (by simp; omega)) ?_
     refine stg rfl rfl rfl rfl rfl (fun hb => by (have hq := hb; try simp only [zbA] at hq); exact rLdC rfl (evg rfl hb) (by omega)) ?_
     refine stg rfl rfl rfl rfl rfl (fun hb => by (have hq := hb; try simp only [zbA] at hq); exact rLen rfl (evg rfl hb)) ?_
     refine stg rfl rfl rfl rfl rfl (fun hb => by (have hq := hb; try simp only [zbA] at hq); exact rQuo rfl rfl (evg rfl hb) (by omega) (by omega)) ?_
     refine stg rfl rfl rfl rfl rfl (fun hb => by (have hq := hb; try simp only [zbA] at hq); exact rGtr rfl (evg rfl hb) (evg rfl hb)) ?_
     refine sV (rOrB rfl rfl rfl rfl) ?_
     simp only [Int.toNat_zero]
     refine tC rfl (fun h17 => ?_) (fun h17 => ?_)
     ·try simp only [zbA] at h17
      refine tS ?_
      refine tR fun _ _ _ => ?_
      refine pV ?_
      exact tr_ret ⟨trivial, _, _, rfl, ⟨by rw [quE_len hF0 h3 hne hS (by rcases Nat.eq_zero_or_pos (us.getD 0 cubD).rs.length with h0 | h0; exact .inl h0; exact .inr ((hq64 (by omega)).1 (by rcases h17 with h | h <;> omega)))], rfl⟩, CSub.nil _, trivial⟩
     ·try simp only [zbA] at h17
      refine tK ?_
      refine tS ?_
      refine tS ?_
      refine tR fun _ _ _ => ?_
      refine pV ?_
      refine tB ?_
      refine tr_loop1 (fun (x : Int) => [(9, .int .i64 x), (2, .slice U nu cu), (3, .pointer (some p0))]) (fun (x : Int) => [cubR us, blk p0 24 [.int .i64 p, .int .i64 m, .slice A mod.length c], ro A (ints mod), ro U (cubH us)]) (fun (x : Int) => (0 ≤ x ∧ x ≤ nu) ∧ ∀ z : Nat, (z : Int) < x → ∀ r ∈ (us.getD z cubD).rs, AllIn (pw p m) r.xs) (fun (x : Int) => (nu - x).toNat) (0) ⟨rfl, rfl, rfl, trivial⟩ (by first | exact cs _ _ | exact CSub.refl _) (⟨⟨by omega, by omega⟩, fun z hz => by omega⟩) (fun x hI => ?_)
      obtain ⟨⟨hx0, hx1⟩, hen⟩ := hI
      refine tS ?_
      refine tS ?_
      refine tR fun _ _ _ => ?_
      iterate 2 refine pV ?_
      refine sV (rLen rfl rfl) ?_
      refine pV ?_
      refine tC rfl (fun h20 => ?_) (fun h20 => ?_)
      ·try simp only [zbA] at h20
       refine tK ?_
       refine tS ?_
       refine tB ?_
       refine tS ?_
       haveI : InB x.toNat us.length := ⟨by omega⟩
       have hui : (us.getD x.toNat cubD) ∈ us := getD_mem (by omega) cubD
       obtain ⟨hui8, hui9⟩ := hb _ hui
       refine tr_chunks _ ((cs _ [cubR us, blk p0 24 [.int .i64 p, .int .i64 m, .slice A mod.length c], ro A (ints mod), ro U (cubH us)]).trans (cub_out hui _)) ?_
       refine tR fun _ _ _ => ?_
       refine pV ?_
       refine tB ?_
       refine tr_loop1 (fun (y : Int) => [(10, .int .i64 y), (2, .slice U nu cu), (3, .pointer (some p0)), (9, .int .i64 x), (68, .int .i64 x), (69, .slice U nu cu), (70, .int .i64 nu)]) (fun (y : Int) => [ro (us.getD x.toNat cubD).A (hdrs (us.getD x.toNat cubD).rs), rowsR (us.getD x.toNat cubD).rs, cubR us, blk p0 24 [.int .i64 p, .int .i64 m, .slice A mod.length c], ro A (ints mod), ro U (cubH us)]) (fun (y : Int) => (0 ≤ y ∧ y ≤ (us.getD x.toNat cubD).rs.length) ∧ ∀ z : Nat, (z : Int) < y → AllIn (pw p m) ((us.getD x.toNat cubD).rs.getD z rowD).xs) (fun (y : Int) => ((us.getD x.toNat cubD).rs.length - y).toNat) (0) ⟨rfl, rfl, rfl, rfl, rfl, rfl, rfl, trivial⟩ (by first | exact cs _ _ | exact CSub.refl _) (⟨⟨by omega, by omega⟩, fun z hz => by omega⟩) (fun y hI => ?_)
       obtain ⟨⟨hy0, hy1⟩, hey⟩ := hI
       refine tS ?_
       refine tS ?_
       refine tR fun _ _ _ => ?_
       iterate 3 refine pV ?_
       refine sV (rIdx rfl rfl rfl (by omega) (by omega) (by simp; omega)) ?_
       refine sV (rLdC rfl rfl (by omega)) ?_
       refine sV (rLen rfl rfl) ?_
       refine pV ?_
       refine tC rfl (fun h23 => ?_) (fun h23 => ?_)
       ·try simp only [zbA] at h23
        refine tK ?_
        refine tS ?_
        refine tB ?_
        refine tS ?_
        haveI : InB y.toNat (us.getD x.toNat cubD).rs.length := ⟨by omega⟩
        have hrf := row_flat (getD_mem (show y.toNat < (us.getD x.toNat cubD).rs.length by omega) rowD)
        refine tr_draw [0, 1, 2, 3, 4, 5, 6, 7, 8, 9] [] mixed (by kernel_rfl) fun _ _ _ => ?_
        refine sV (rLdS rfl rfl rfl) ?_
        iterate 2 refine pV ?_
        refine sV (rIdx rfl rfl rfl (by omega) (by omega) (by simp; omega)) ?_
        refine sV (rLdC rfl rfl (by omega)) ?_
        refine pV ?_
        refine sV (rIdxR rfl rfl rfl (by omega) (by omega) (by omega)) ?_
        refine sV (rLdR rfl rfl (by omega)) ?_
        refine eV (eCallV rfl rfl rfl (ref_Entries _ _ _ _ _ _ _ _ ((us.getD x.toNat cubD).rs.getD y.toNat rowD).xs rfl (by omega)) ⟨rfl, rfl, trivial⟩ ?_)
        refine pV ?_
        refine tC rfl (fun h25 => ?_) (fun h25 => ?_)
        ·try simp only [zbA] at h25
         rw [hord] at h25
         have hek : ¬ AllIn (pw p m) ((us.getD x.toNat cubD).rs.getD y.toNat rowD).xs := fun h => h25 (entC_ok h)
         refine tS ?_
         refine tR fun _ _ _ => ?_
         refine pV ?_
         exact tr_ret ⟨trivial, _, _, rfl, ⟨by rw [quE_ent hF0 h3 hne hS (fun h => by rcases h with h | h; omega; have := (hq64 (by omega)).2 h; omega) (fun h => hek (h _ hui _ (getD_mem (by omega) rowD)))], rfl⟩, CSub.nil _, trivial⟩
        ·try simp only [zbA] at h25
         rw [hord] at h25
         have hek : AllIn (pw p m) ((us.getD x.toNat cubD).rs.getD y.toNat rowD).xs := by
          rcases entC_cases (pw p m) ((us.getD x.toNat cubD).rs.getD y.toNat rowD).xs with h | h
          ·exact h.1
          ·exact absurd h.2 (by omega)
         refine tK ?_
         refine tR fun _ _ _ => ?_
         refine pV ?_
         refine sV (rAdd rfl rfl rfl (by omega) (by omega)) ?_
         refine pV ?_
         refine ⟨y + 1, ⟨rfl, rfl, rfl, rfl, rfl, rfl, rfl, trivial⟩, by first | exact cs _ _ | exact CSub.refl _, ?_⟩
         refine ⟨⟨⟨by omega, by omega⟩, fun z hz => ?_⟩, by omega⟩
         by_cases he : (z : Int) = y
         ·have : z = y.toNat := by omega
          subst this; exact hek
         ·exact hey z (by omega)
       ·try simp only [zbA] at h23
        refine tE ?_
        refine tR fun _ _ _ => ?_
        refine pV ?_
        refine sV (rAdd rfl rfl rfl (by omega) (by omega)) ?_
        refine pV ?_
        refine ⟨x + 1, ⟨rfl, rfl, rfl, trivial⟩, by first | exact cs _ _ | exact CSub.refl _, ?_⟩
        refine ⟨⟨⟨by omega, by omega⟩, fun z hz => ?_⟩, by omega⟩
        by_cases he : (z : Int) = x
        ·have : z = x.toNat := by omega
         subst this
         exact all_getD (d := rowD) fun y hy => hey y (by omega)
        ·exact hen z (by omega)
      ·try simp only [zbA] at h20
       refine tE ?_
       refine tS ?_
       refine tR fun _ _ _ => ?_
       refine pV ?_
       exact tr_ret ⟨trivial, _, _, rfl, ⟨by rw [quE_ok hF0 h3 hne hS (fun h => by rcases h with h | h; omega; have := (hq64 (by omega)).2 h; omega) (all_getD (d := cubD) fun z hz => hen z (by omega))], rfl⟩, CSub.nil _, trivial⟩
theorem Pure.three_weak {P : Program} {f : FuncId} {args : Array Value} {G : List Chunk} {R R' : Value → Chunk → Chunk → Chunk → Prop} (h : Pure P f args G (three R)) (hr : ∀ v a b c, R v a b c → ∃ a' b' c', Weak a a' ∧ Weak b b' ∧ Weak c c' ∧ R' v a' b' c') : Pure P f args G (three R') :=
 ⟨h.ent, fun w hg => (h.run w hg).mono fun _ _ ⟨v, Fo, h1, h2, h3, h4, h5⟩ => by
  obtain ⟨a, b, c, rfl, h3⟩ := h3
  obtain ⟨a', b', c', ha, hb, hc, h6⟩ := hr _ _ _ _ h3
  have wk : ∀ {x y x' y' : Chunk}, Weak x x' → Weak y y' → x.sep y → x'.sep y' := fun hx hy hs hex d hd hd' => hs (hex.elim (fun h => .inl (hx.excl h)) (fun h => .inr (hy.excl h))) d (hx.foot d hd) (hy.foot d hd')
  simp only [List.pairwise_cons, List.mem_cons, List.not_mem_nil, or_false] at h5
  have hab := h5.1 b (.inl rfl)
  have hac := h5.1 c (.inr rfl)
  have hbc := h5.2.1 c rfl
  refine ⟨v, [a', b', c'], h1, h2, ⟨a', b', c', rfl, h6⟩, fun x hx => ?_, ?_⟩
  ·simp only [List.mem_cons, List.not_mem_nil, or_false] at hx
   rcases hx with rfl | rfl | rfl
   ·exact ⟨ha.sat _ (h4 a (by simp)).1, fun d hd => (h4 a (by simp)).2 d (ha.foot d hd)⟩
   ·exact ⟨hb.sat _ (h4 b (by simp)).1, fun d hd => (h4 b (by simp)).2 d (hb.foot d hd)⟩
   ·exact ⟨hc.sat _ (h4 c (by simp)).1, fun d hd => (h4 c (by simp)).2 d (hc.foot d hd)⟩
  ·simp only [List.pairwise_cons, List.mem_cons, List.not_mem_nil, or_false, forall_eq_or_imp, forall_eq, false_implies, implies_true, List.Pairwise.nil, and_true]
   exact ⟨⟨wk ha hb hab, wk ha hc hac⟩, wk hb hc hbc⟩⟩
theorem Pure.three_nil {P : Program} {f : FuncId} {args : Array Value} {G : List Chunk} {u : Value} {R' : Value → Chunk → Chunk → Chunk → Prop} (h : Pure P f args G (isV u)) (hr : R' u (rx none (ints [])) (rx none (hdrs [])) (rowsX [])) : Pure P f args G (three R') :=
 ⟨h.ent, fun w hg => (h.run w hg).mono fun _ _ ⟨v, Fo, h1, h2, h3, h4, h5⟩ => by
  obtain ⟨rfl, rfl⟩ := h3
  have f0 : ∀ b, ¬ (rx none (ints [])).foot b := fun b hb => absurd rfl hb.1
  have f1 : ∀ b, ¬ (rx none (hdrs [])).foot b := fun b hb => absurd rfl hb.1
  have f2 : ∀ b, ¬ (rowsX []).foot b := fun b ⟨r, hr, _⟩ => by simp at hr
  refine ⟨_, _, h1, h2, ⟨_, _, _, rfl, hr⟩, fun x hx => ?_, ?_⟩
  ·simp only [List.mem_cons, List.not_mem_nil, or_false] at hx
   rcases hx with rfl | rfl | rfl
   ·exact ⟨fun j hj => by simp [ints] at hj, fun d hd => absurd hd (f0 d)⟩
   ·exact ⟨fun j hj => by simp [hdrs] at hj, fun d hd => absurd hd (f1 d)⟩
   ·exact ⟨fun r hr => by simp at hr, fun d hd => absurd hd (f2 d)⟩
  ·refine List.pairwise_cons.2 ⟨fun c _ _ b hb => absurd hb (f0 b), List.pairwise_cons.2 ⟨fun c _ _ b hb => absurd hb (f1 b), List.pairwise_cons.2 ⟨fun c hc => by simp at hc, List.Pairwise.nil⟩⟩⟩⟩
theorem rowsC_2 {q w : Int} {rs : List RowM} (h0 : 0 ≤ w) (h1 : w ≤ 256) (h2 : rs.length ≤ 256) (hl : ∀ r ∈ xss rs, (r.length : Int) = w) : (rowsC q w (xss rs) = 0 ∧ Gd q w.toNat rs) ∨ (rowsC q w (xss rs) = 2 ∧ ¬ ∀ r ∈ xss rs, AllIn q r) := by
 have h3 : 0 ≤ w ∧ w ≤ 256 ∧ (xss rs).length ≤ 256 := ⟨h0, h1, by rw [xss_length]; omega⟩
 by_cases h : ∀ r ∈ xss rs, AllIn q r
 ·exact .inl ⟨rowsC_ok h3 hl h, (Gd_iff h0).2 ⟨hl, h⟩⟩
 ·exact .inr ⟨rowsC_ent h3 hl h, h⟩
theorem quS_flat {k : Int} {us : List CubM} (hS : quS k us) (hk : ¬ k < 1) {c : CubM} (hc : c ∈ us) : ((flat c.rs).length : Int) = (us.getD 0 cubD).rs.length * k := by
 obtain ⟨h1, h2⟩ := hS c hc
 rw [flat_len (m := k.toNat) fun r hr => by have := h2 r hr; omega, h1, Int.natCast_mul, Int.toNat_of_nonneg (by omega)]
theorem dvd_of_mul {n L : Nat} {k : Int} (hk : 0 ≤ k) (h : (n : Int) = L * k) : k.toNat ∣ n := ⟨L, by
 have h1 : ((k.toNat : Nat) : Int) = k := Int.toNat_of_nonneg hk
 apply Int.ofNat.inj
 show (n : Int) = ((k.toNat * L : Nat) : Int)
 rw [Int.natCast_mul, h1, Int.mul_comm]; exact h⟩
theorem le_of_mul {L : Nat} {k w : Int} (hk : ¬ k < 1) (hw : w = L * k) (h0 : 1 ≤ w) : k ≤ w := by
 have h1 : 1 ≤ L := by
  rcases Nat.eq_zero_or_pos L with h | h
  ·subst h; omega
  ·exact h
 have := Int.mul_le_mul_of_nonneg_right (show (1 : Int) ≤ L by omega) (show 0 ≤ k by omega)
 omega
theorem code_NewErr_ent : Enters Try.prog 21 := enters_of Try.func21 (by kernel_rfl) (by kernel_rfl)
theorem code_NewErr (p m : Int) (A : Option Addr) (c : Nat) (mod : List Int) [hF : IsF p m mod] (w : Int) (Aa : Option Addr) (n ca : Nat) (rs : List RowM) (hn : n = rs.length) (h9 : rs.length ≤ 256) (h8 : ∀ r ∈ rs, r.xs.length ≤ 17592186044415) (hE : rowsC (pw p m) w (xss rs) ≠ 0) :
  Pure Try.prog 21 #[.agg #[.int .i64 p, .int .i64 m, .slice A mod.length c], .agg #[.int .i64 w, .slice Aa n ca]] [ro A (ints mod), ro Aa (hdrs rs), rowsR rs] (isV (.tuple #[.agg #[.int .i64 0, .int .i64 0, .slice none 0 0, .int .i64 0, .slice none 0 0], .int .i64 (rowsC (pw p m) w (xss rs))])) := by
 have hl8 := hF.short
 refine pure_ofC (args := [.agg #[.int .i64 p, .int .i64 m, .slice A mod.length c], .agg #[.int .i64 w, .slice Aa n ca]]) 27 Try.func21 rfl rfl rfl code_NewErr_ent ⟨id, id, id, trivial⟩ (fun w0 => ?_)
 refine tS ?_
 refine tR fun _ _ _ => ?_
 refine eV (eBox rfl rfl rfl rfl rfl (fun p0 => ?_))
 refine eV (eBox rfl rfl rfl rfl rfl (fun p0a => ?_))
 refine eV (eAlloc rfl rfl rfl (fun p0b => ?_))
 refine pV ?_
 refine tS ?_
 refine tR fun _ _ _ => ?_
 refine sV (rLdS rfl rfl rfl) ?_
 refine sV (rLdS rfl rfl rfl) ?_
 refine eV (eCallV rfl rfl rfl (mat_CanonicalE _ _ _ _ _ (by omega) w _ _ _ rs hn (by omega) h8 hE) ⟨rfl, rfl, trivial⟩ ?_)
 iterate 4 refine pV ?_
 refine eV (eAlloc rfl rfl rfl (fun p1a => ?_))
 refine eV (eStS rfl rfl rfl rfl rfl rfl ?_)
 iterate 2 refine pV ?_
 refine tS ?_
 refine tS ?_
 refine tR fun _ _ _ => ?_
 iterate 2 refine pV ?_
 refine tC rfl (fun h2 => ?_) (fun h2 => ?_)
 ·try simp only [zbA] at h2
  exact absurd h2 hE --done
 ·try simp only [zbA] at h2
  refine tK ?_
  refine tS ?_
  refine tR fun _ _ _ => ?_
  refine sV (rLdS rfl rfl rfl) ?_
  refine sV (rLdS rfl rfl rfl) ?_
  refine pV ?_
  refine eV (eCallV rfl rfl rfl (code_ofE _ _ _ _ _ (by omega) _ _ _ _ _ hE) ⟨rfl, rfl, rfl, trivial⟩ ?_)
  iterate 2 refine pV ?_
  refine eV (eStS rfl rfl rfl rfl rfl rfl ?_)
  refine pV ?_
  exact tr_ret ⟨trivial, _, _, (.cell rfl (cellS rfl) (.tmp rfl .nil)), ⟨rfl, rfl⟩, CSub.nil _, trivial⟩
theorem code_NewX (p m : Int) (A : Option Addr) (c : Nat) (mod : List Int) [hF : IsF p m mod] (w : Int) (Aa : Option Addr) (n ca : Nat) (rs : List RowM) (hn : n = rs.length) (h9 : rs.length ≤ 256) (hw1 : 1 ≤ w) (hw64 : w ≤ 64) (h8 : ∀ r ∈ rs, r.xs.length ≤ 17592186044415) : Pure Try.prog 21 #[.agg #[.int .i64 p, .int .i64 m, .slice A mod.length c], .agg #[.int .i64 w, .slice Aa n ca]] [ro A (ints mod), ro Aa (hdrs rs), rowsR rs] (three (fun v ca cb cc => ∃ pp mm Mo mc md N5 B r3, v = .tuple #[.agg #[.int .i64 pp, .int .i64 mm, .slice Mo md.length mc, .int .i64 N5, .slice B r3.length r3.length], .int .i64 (rowsC (pw p m) w (xss rs))] ∧ ca = rx Mo (ints md) ∧ cb = rx B (hdrs r3) ∧ cc = rowsX r3 ∧ (rowsC (pw p m) w (xss rs) = 0 → pp = p ∧ mm = m ∧ md = mod ∧ N5 = w ∧ CdOf p m mod w.toNat r3 (fun u => Vc.SpL (vsR rs : List (Vc (El p m mod))) u)))) := by
 by_cases hE : rowsC (pw p m) w (xss rs) = 0
 ·have hgd := (rowsC_Gd hE).1
  refine (code_New p m A c mod w Aa n ca rs hn h9 hw1 hw64 hgd).three_weak ?_
  rintro _ _ _ _ ⟨Bm, cm, B, r3, rfl, rfl, rfl, rfl, hC⟩
  refine ⟨rx Bm (ints mod), rx B (hdrs r3), rowsX r3, ⟨fun w h => ow_reads h, fun b hb => hb.2, fun _ => trivial⟩, ⟨fun w h => h, fun b hb => hb, fun h => h⟩, ⟨fun w h r hr => ow_reads (h.1 r hr), fun b hb => ?_, fun _ => trivial⟩, p, m, Bm, cm, mod, w, B, r3, by rw [hE], rfl, rfl, rfl, fun _ => ⟨rfl, rfl, rfl, rfl, hC⟩⟩
  obtain ⟨r, hr, hf⟩ := hb
  exact ⟨r, hr, hf.2⟩
 ·exact (code_NewErr p m A c mod w Aa n ca rs hn h9 h8 hE).three_nil ⟨0, 0, none, 0, [], 0, none, [], rfl, rfl, rfl, rfl, fun h => absurd h hE⟩
theorem cyc_Quasi_ent : Enters Try.prog 5 := enters_of Try.func5 (by kernel_rfl) (by kernel_rfl)
theorem cyc_Quasi (p m : Int) (A : Option Addr) (c : Nat) (mod : List Int) (hl9 : mod.length ≤ 17592186044415) (k : Int) (U : Option Addr) (nu cu : Nat) (us : List CubM) (hnu : nu = us.length) (hu9 : us.length ≤ 20) (hb : ∀ c ∈ us, c.rs.length ≤ 1048576 ∧ (flat c.rs).length ≤ 1048576) :
  Pure Try.prog 5 #[.agg #[.int .i64 p, .int .i64 m, .slice A mod.length c], .int .i64 k, .slice U nu cu] [ro A (ints mod), ro U (cubH us), cubR us] (three (fun v ca cb cc => ∃ pp mm Mo mc md N5 B r3, v = .tuple #[.agg #[.int .i64 pp, .int .i64 mm, .slice Mo md.length mc, .int .i64 N5, .slice B r3.length r3.length], .int .i64 (quE p m mod k us)] ∧ ca = rx Mo (ints md) ∧ cb = rx B (hdrs r3) ∧ cc = rowsX r3 ∧ (quE p m mod k us ≠ 0 → N5 = 0 ∧ r3 = []) ∧ (quE p m mod k us = 0 → pp = p ∧ mm = m ∧ md = mod ∧ N5 = (us.getD 0 cubD).rs.length * k ∧ ∃ hF : IsF p m mod, CdOf p m mod N5.toNat r3 (Vc.SpL (quV p m mod (quX k.toNat us)))))) := by
 refine pure_ofC (args := [.agg #[.int .i64 p, .int .i64 m, .slice A mod.length c], .int .i64 k, .slice U nu cu]) 110 Try.func5 rfl rfl rfl cyc_Quasi_ent ⟨id, id, id, trivial⟩ (fun w0 => ?_)
 refine tS ?_
 refine tR fun _ _ _ => ?_
 refine eV (eBox rfl rfl rfl rfl rfl (fun p0 => ?_))
 refine eV (eAlloc rfl rfl rfl (fun p0a => ?_))
 refine pV ?_
 refine tS ?_
 refine tS ?_
 refine tR fun _ _ _ => ?_
 refine sV (rLdS rfl rfl rfl) ?_
 refine eV (eCallV rfl rfl rfl (fld_Check _ _ _ _ _ hl9) ⟨rfl, trivial⟩ ?_)
 refine pV ?_
 refine tS ?_
 refine tR fun _ _ _ => ?_
 iterate 2 refine pV ?_
 refine tC rfl (fun h2 => ?_) (fun h2 => ?_)
 ·try simp only [zbA] at h2
  have hF0 : ¬ FldR p m mod := fun h => by rw [chkF_ok h] at h2; omega
  have hc1 := chkF_no hF0
  refine tS ?_
  refine tR fun _ _ _ => ?_
  refine sV (rBuild rfl rfl) ?_
  refine pV ?_
  refine eV (eStS rfl rfl rfl rfl rfl rfl ?_)
  refine pV ?_
  have hqe : quE p m mod k us = 1 := quE_no hF0
  refine tr_chunks _ (ro_nil2 _) ?_
  exact tr_ret ⟨trivial, _, _, (.cell rfl (cellS rfl) (.tmp rfl .nil)), ⟨_, _, _, rfl, 0, 0, none, 0, [], 0, none, [], by rw [hqe, hc1]; rfl, rfl, rfl, rfl, fun _ => ⟨rfl, rfl⟩, fun h => by rw [hqe] at h; cases h⟩, cs _ _, trivial, trivial, trivial, trivial⟩
 ·try simp only [zbA] at h2
  have hF0 : FldR p m mod := Classical.byContradiction fun h => by rw [chkF_no h] at h2; omega
  haveI hF : IsF p m mod := ⟨hF0⟩
  have hord := hF.ord
  refine tK ?_
  refine tS ?_
  refine tS ?_
  refine tR fun _ _ _ => ?_
  iterate 2 refine pV ?_
  refine tC rfl (fun h4 => ?_) (fun h4 => ?_)
  ·try simp only [zbA] at h4
   refine tS ?_
   refine tR fun _ _ _ => ?_
   refine sV (rBuild rfl rfl) ?_
   refine eV (eStS rfl rfl rfl rfl rfl rfl ?_)
   refine pV ?_
   have hqe : quE p m mod k us = 6 := quE_k hF0 h4
   refine tr_chunks _ (ro_nil2 _) ?_
   exact tr_ret ⟨trivial, _, _, (.cell rfl (cellS rfl) (.tmp rfl .nil)), ⟨_, _, _, rfl, 0, 0, none, 0, [], 0, none, [], by rw [hqe]; rfl, rfl, rfl, rfl, fun _ => ⟨rfl, rfl⟩, fun h => by rw [hqe] at h; cases h⟩, cs _ _, trivial, trivial, trivial, trivial⟩
  ·try simp only [zbA] at h4
   refine tK ?_
   refine tS ?_
   refine tS ?_
   refine tR fun _ _ _ => ?_
   refine pV ?_
   refine sV (rLen rfl rfl) ?_
   refine pV ?_
   refine tC rfl (fun h6 => ?_) (fun h6 => ?_)
   ·try simp only [zbA] at h6
    refine tS ?_
    refine tR fun _ _ _ => ?_
    refine sV (rBuild rfl rfl) ?_
    refine eV (eStS rfl rfl rfl rfl rfl rfl ?_)
    refine pV ?_
    have hqe : quE p m mod k us = 3 := quE_nil hF0 h4 (List.length_eq_zero_iff.1 (by omega))
    refine tr_chunks _ (ro_nil2 _) ?_
    exact tr_ret ⟨trivial, _, _, (.cell rfl (cellS rfl) (.tmp rfl .nil)), ⟨_, _, _, rfl, 0, 0, none, 0, [], 0, none, [], by rw [hqe]; rfl, rfl, rfl, rfl, fun _ => ⟨rfl, rfl⟩, fun h => by rw [hqe] at h; cases h⟩, cs _ _, trivial, trivial, trivial, trivial⟩
   ·try simp only [zbA] at h6
    have hne : us ≠ [] := fun h => by subst h; simp at hnu; omega
    refine tK ?_
    refine tS ?_
    refine tR fun _ _ _ => ?_
    refine pV ?_
    refine tS ?_
    refine tS ?_
    refine tR fun _ _ _ => ?_
    refine pV ?_
    refine sV (rLen rfl rfl) ?_
    refine pV ?_
    refine tB ?_
    refine tr_nilR 22 3 ?_
    refine tr_loop4 (fun (i : Int) (B : Option Addr) (cb : Nat) (fs : List RowM) => [(9, .slice B fs.length cb), (35, .int .i64 i), (1, .int .i64 k), (2, .slice U nu cu), (3, .pointer (some p0)), (6, .pointer (some p0a)), (33, .slice U nu cu), (34, .int .i64 nu)]) (fun (i : Int) (B : Option Addr) (cb : Nat) (fs : List RowM) => [ow B 22 cb (hdrs fs), rowsCh 3 fs, cubR us, blk p0 24 [.int .i64 p, .int .i64 m, .slice A mod.length c], blk p0a 28 [.int .i64 0, .int .i64 0, .slice none 0 0, .int .i64 0, .slice none 0 0], ro A (ints mod), ro U (cubH us)]) (fun (i : Int) (B : Option Addr) (cb : Nat) (fs : List RowM) => (0 ≤ i ∧ i ≤ nu) ∧ (fs.length : Int) = i ∧ xss fs = ((us.take i.toNat).map fun c => flat c.rs) ∧ ∀ z : Nat, (z : Int) < i → (us.getD z cubD).rs.length = (us.getD 0 cubD).rs.length ∧ ∀ r ∈ (us.getD z cubD).rs, (r.xs.length : Int) = k) (fun (i : Int) (B : Option Addr) (cb : Nat) (fs : List RowM) => (nu - i).toNat) (0) (none) (0) ([]) ⟨rfl, rfl, rfl, rfl, rfl, rfl, rfl, rfl, trivial⟩ (by first | exact cs _ _ | exact CSub.refl _) (⟨⟨by omega, by omega⟩, rfl, rfl, fun z hz => by omega⟩) (fun i B cb fs hI => ?_)
    obtain ⟨⟨hi0, hi1⟩, hfi, hfs, hsh⟩ := hI
    refine tS ?_
    refine tR fun _ _ _ => ?_
    refine pV ?_
    refine tS ?_
    refine tC rfl (fun h10 => ?_) (fun h10 => ?_)
    ·try simp only [zbA] at h10
     refine tK ?_
     refine tS ?_
     refine tB ?_
     refine tS ?_
     haveI : InB i.toNat us.length := ⟨by omega⟩
     have hui : (us.getD i.toNat cubD) ∈ us := getD_mem (by omega) cubD
     obtain ⟨hui8, hui9⟩ := hb _ hui
     refine tr_chunks _ ((cs _ [cubR us, ow B 22 cb (hdrs fs), rowsCh 3 fs, blk p0 24 [.int .i64 p, .int .i64 m, .slice A mod.length c], blk p0a 28 [.int .i64 0, .int .i64 0, .slice none 0 0, .int .i64 0, .slice none 0 0], ro A (ints mod), ro U (cubH us)]).trans (cub_out hui _)) ?_
     refine tR fun _ _ _ => ?_
     refine sV (rIdx rfl rfl rfl (by omega) (by omega) (by simp; omega)) ?_
     refine sV (rLdC rfl rfl (by omega)) ?_
     refine pV ?_
     refine tS ?_
     refine tS ?_
     refine tR fun _ _ _ => ?_
     refine pV ?_
     refine sV (rLen rfl rfl) ?_
     refine pV ?_
     refine sV (rIdx rfl rfl rfl (by omega) (by omega) (by simp; omega)) ?_
     refine sV (rLdC rfl rfl (by omega)) ?_
     refine sV (rLen rfl rfl) ?_
     refine pV ?_
     simp only [Int.toNat_zero]
     refine tC rfl (fun h12 => ?_) (fun h12 => ?_)
     ·try simp only [zbA] at h12
      refine tS ?_
      refine tR fun _ _ _ => ?_
      refine sV (rBuild rfl rfl) ?_
      refine eV (eStS rfl rfl rfl rfl rfl rfl ?_)
      refine pV ?_
      have hqe : quE p m mod k us = 3 := quE_shape hF0 h4 fun h => h12 (by have := (h _ hui).1; omega)
      refine tr_chunks _ (ro_nil2 _) ?_
      exact tr_ret ⟨trivial, _, _, (.cell rfl (cellS rfl) (.tmp rfl .nil)), ⟨_, _, _, rfl, 0, 0, none, 0, [], 0, none, [], by rw [hqe]; rfl, rfl, rfl, rfl, fun _ => ⟨rfl, rfl⟩, fun h => by rw [hqe] at h; cases h⟩, cs _ _, trivial, trivial, trivial, trivial⟩
     ·try simp only [zbA] at h12
      refine tK ?_
      refine tS ?_
      refine tS ?_
      refine tR fun _ _ _ => ?_
      refine pV ?_
      refine sV (rLen rfl rfl) ?_
      refine pV ?_
      refine tB ?_
      refine tr_loop1 (fun (j : Int) => [(49, .int .i64 j), (11, .slice (us.getD i.toNat cubD).A (us.getD i.toNat cubD).rs.length (us.getD i.toNat cubD).cap), (47, .slice (us.getD i.toNat cubD).A (us.getD i.toNat cubD).rs.length (us.getD i.toNat cubD).cap), (48, .int .i64 (us.getD i.toNat cubD).rs.length), (1, .int .i64 k), (2, .slice U nu cu), (3, .pointer (some p0)), (6, .pointer (some p0a)), (9, .slice B fs.length cb), (33, .slice U nu cu), (34, .int .i64 nu), (35, .int .i64 i), (41, .slice U nu cu)]) (fun (j : Int) => [ro (us.getD i.toNat cubD).A (hdrs (us.getD i.toNat cubD).rs), rowsR (us.getD i.toNat cubD).rs, cubR us, ow B 22 cb (hdrs fs), rowsCh 3 fs, blk p0 24 [.int .i64 p, .int .i64 m, .slice A mod.length c], blk p0a 28 [.int .i64 0, .int .i64 0, .slice none 0 0, .int .i64 0, .slice none 0 0], ro A (ints mod), ro U (cubH us)]) (fun (j : Int) => (0 ≤ j ∧ j ≤ (us.getD i.toNat cubD).rs.length) ∧ ∀ z : Nat, (z : Int) < j → (((us.getD i.toNat cubD).rs.getD z rowD).xs.length : Int) = k) (fun (j : Int) => ((us.getD i.toNat cubD).rs.length - j).toNat) (0) ⟨rfl, rfl, rfl, rfl, rfl, rfl, rfl, rfl, rfl, rfl, rfl, rfl, rfl, trivial⟩ (by first | exact cs _ _ | exact CSub.refl _) (⟨⟨by omega, by omega⟩, fun z hz => by omega⟩) (fun j hI => ?_)
      obtain ⟨⟨hj0, hj1⟩, hsj⟩ := hI
      refine tS ?_
      refine tR fun _ _ _ => ?_
      refine pV ?_
      refine tS ?_
      refine tC rfl (fun h15 => ?_) (fun h15 => ?_)
      ·try simp only [zbA] at h15
       refine tK ?_
       refine tS ?_
       refine tB ?_
       refine tS ?_
       haveI : InB j.toNat (us.getD i.toNat cubD).rs.length := ⟨by omega⟩
       refine tR fun _ _ _ => ?_
       refine sV (rIdxR rfl rfl rfl (by omega) (by omega) (by omega)) ?_
       refine sV (rLdR rfl rfl (by omega)) ?_
       refine pV ?_
       refine tS ?_
       refine tR fun _ _ _ => ?_
       refine pV ?_
       refine sV (rLen rfl rfl) ?_
       iterate 2 refine pV ?_
       refine tC rfl (fun h17 => ?_) (fun h17 => ?_)
       ·try simp only [zbA] at h17
        refine tS ?_
        refine tR fun _ _ _ => ?_
        refine sV (rBuild rfl rfl) ?_
        refine eV (eStS rfl rfl rfl rfl rfl rfl ?_)
        refine pV ?_
        have hqe : quE p m mod k us = 3 := quE_shape hF0 h4 fun h => h17 (by have := (h _ hui).2 _ (getD_mem (show j.toNat < (us.getD i.toNat cubD).rs.length by omega) rowD); omega)
        refine tr_chunks _ (ro_nil2 _) ?_
        exact tr_ret ⟨trivial, _, _, (.cell rfl (cellS rfl) (.tmp rfl .nil)), ⟨_, _, _, rfl, 0, 0, none, 0, [], 0, none, [], by rw [hqe]; rfl, rfl, rfl, rfl, fun _ => ⟨rfl, rfl⟩, fun h => by rw [hqe] at h; cases h⟩, cs _ _, trivial, trivial, trivial, trivial⟩
       ·try simp only [zbA] at h17
        refine tK ?_
        refine tR fun _ _ _ => ?_
        refine sV (rAdd rfl rfl rfl (by omega) (by omega)) ?_
        refine pV ?_
        refine ⟨j + 1, ⟨rfl, rfl, rfl, rfl, rfl, rfl, rfl, rfl, rfl, rfl, rfl, rfl, rfl, trivial⟩, by first | exact cs _ _ | exact CSub.refl _, ?_⟩
        refine ⟨⟨⟨by omega, by omega⟩, fun z hz => ?_⟩, by omega⟩
        by_cases he : (z : Int) = j
        ·have : z = j.toNat := by omega
         subst this; omega
        ·exact hsj z (by omega)
      ·try simp only [zbA] at h15
       refine tE ?_
       have hsi : ∀ r ∈ (us.getD i.toNat cubD).rs, (r.xs.length : Int) = k := all_getD (d := rowD) fun z hz => hsj z (by omega)
       refine tR fun _ _ _ => ?_
       iterate 2 refine pV ?_
       refine eV (eCall1 rfl rfl rfl (slc_Concat (us.getD i.toNat cubD).A _ (us.getD i.toNat cubD).cap (us.getD i.toNat cubD).rs rfl hui8 hui9) ⟨rfl, trivial⟩ ?_)
       rintro _ _ ⟨B20, c20, rfl, rfl⟩
       refine eV (eLit1 rfl rfl rfl rfl rfl (fun A20a => ?_))
       refine eV (eAppR rfl rfl rfl rfl rfl (by first | rfl | simp | omega) (by omega) (fun A20b c20b => ?_))
       refine pV ?_
       refine tR fun _ _ _ => ?_
       refine sV (rAdd rfl rfl rfl (by omega) (by omega)) ?_
       refine pV ?_
       refine ⟨i + 1, A20b, c20b, fs ++ [⟨B20, c20, flat (us.getD i.toNat cubD).rs⟩], ⟨rfl, rfl, rfl, rfl, rfl, rfl, rfl, rfl, trivial⟩, by exact rows_app, ?_⟩
       refine ⟨⟨⟨by omega, by omega⟩, by rw [List.length_append]; simp; omega, by rw [show (i + 1).toNat = i.toNat + 1 by omega]; exact flats_snoc hfs (by omega), fun z hz => ?_⟩, by omega⟩
       by_cases he : (z : Int) = i
       ·have : z = i.toNat := by omega
        subst this
        exact ⟨by omega, hsi⟩
       ·exact hsh z (by omega)
    ·try simp only [zbA] at h10
     refine tE ?_
     refine tS ?_
     have hie : i.toNat = us.length := by omega
     have hS : quS k us := all_getD (d := cubD) fun z hz => hsh z (by omega)
     have hfx : ∀ z, z < us.length → (fs.getD z rowD).xs = flat (us.getD z cubD).rs := fun z hz => flats_get hfs (by omega) (by omega)
     have hfl : fs.length = us.length := by omega
     have hw0 : ((fs.getD 0 rowD).xs.length : Int) = (us.getD 0 cubD).rs.length * k := by rw [hfx 0 (by omega)]; exact quS_flat hS h4 (getD_mem (by omega) cubD)
     have hfw : ∀ z, z < us.length → ((fs.getD z rowD).xs.length : Int) = ((fs.getD 0 rowD).xs.length : Int) := fun z hz => by rw [hw0, hfx z hz]; exact quS_flat hS h4 (getD_mem hz cubD)
     have hlen := len64 (L := (us.getD 0 cubD).rs.length) h4 hw0
     refine tR fun _ _ _ => ?_
     refine pV ?_
     refine sV (rIdxR rfl rfl rfl (by omega) (by omega) (by omega)) ?_
     refine sV (rLdR rfl rfl (by omega)) ?_
     refine sV (rLen rfl rfl) ?_
     refine pV ?_
     simp only [Int.toNat_zero]
     generalize hw : ((fs.getD 0 rowD).xs.length : Int) = w at hw0 hlen hfw ⊢
     refine tS ?_
     refine tS ?_
     refine tR fun _ _ _ => ?_
     iterate 3 refine pV ?_
     refine stg rfl rfl rfl rfl rfl (fun hb => by (have hq := hb; try simp only [zbA] at hq); exact rMove rfl rfl) ?_
     refine stg rfl rfl rfl rfl rfl (fun hb => by (have hq := hb; try simp only [zbA] at hq); exact rGtr rfl (evg rfl hb) rfl) ?_
     refine sV (rOrB rfl rfl rfl rfl) ?_
     refine tC rfl (fun h23 => ?_) (fun h23 => ?_)
     ·try simp only [zbA] at h23
      refine tS ?_
      refine tR fun _ _ _ => ?_
      refine sV (rBuild rfl rfl) ?_
      refine eV (eStS rfl rfl rfl rfl rfl rfl ?_)
      refine pV ?_
      have hqe : quE p m mod k us = 4 := quE_len hF0 h4 hne hS (hlen.1 (by omega))
      refine tr_chunks _ (ro_nil2 _) ?_
      exact tr_ret ⟨trivial, _, _, (.cell rfl (cellS rfl) (.tmp rfl .nil)), ⟨_, _, _, rfl, 0, 0, none, 0, [], 0, none, [], by rw [hqe]; rfl, rfl, rfl, rfl, fun _ => ⟨rfl, rfl⟩, fun h => by rw [hqe] at h; cases h⟩, cs _ _, trivial, trivial, trivial, trivial⟩
     ·try simp only [zbA] at h23
      refine tK ?_
      refine tS ?_
      refine tR fun _ _ _ => ?_
      refine eV (eAlloc rfl rfl rfl (fun p25 => ?_))
      refine tS ?_
      refine tS ?_
      have hw1 : 1 ≤ w := by omega
      have hw64 : w ≤ 64 := by omega
      have hL1 : ¬ ((us.getD 0 cubD).rs.length = 0 ∨ 64 < ((us.getD 0 cubD).rs.length : Int) * k) := fun h => by have := hlen.2 h; omega
      have hk64 := le_of_mul h4 hw0 hw1
      have hq2 := hF.q2
      refine tr_chunks _ ((cs _ [rowsCh 3 fs, blk p25 28 [.int .i64 0, .int .i64 0, .slice none 0 0, .int .i64 0, .slice none 0 0], ow B 22 cb (hdrs fs), blk p0 24 [.int .i64 p, .int .i64 m, .slice A mod.length c], blk p0a 28 [.int .i64 0, .int .i64 0, .slice none 0 0, .int .i64 0, .slice none 0 0], ro A (ints mod)]).trans ((rows_weak _).trans (ro_nil2 _))) ?_
      refine tR fun _ _ _ => ?_
      refine pV ?_
      refine sV (rLen rfl rfl) ?_
      refine pV ?_
      refine tB ?_
      refine tr_loop9 (fun (x : Int) (pp : Int) (mm : Int) (Mo : Option Addr) (mc : Nat) (md : List Int) (N5 : Int) (G : Option Addr) (r5 : List RowM) => [(78, .int .i64 x), (14, .int .i64 w), (77, .int .i64 fs.length), (1, .int .i64 k), (3, .pointer (some p0)), (6, .pointer (some p0a)), (15, .pointer (some p25)), (76, .slice B fs.length cb)]) (fun (x : Int) (pp : Int) (mm : Int) (Mo : Option Addr) (mc : Nat) (md : List Int) (N5 : Int) (G : Option Addr) (r5 : List RowM) => [blk p25 28 [.int .i64 pp, .int .i64 mm, .slice Mo md.length mc, .int .i64 N5, .slice G r5.length r5.length], rx Mo (ints md), rx G (hdrs r5), rowsX r5, ow B 22 cb (hdrs fs), rowsR fs, blk p0 24 [.int .i64 p, .int .i64 m, .slice A mod.length c], blk p0a 28 [.int .i64 0, .int .i64 0, .slice none 0 0, .int .i64 0, .slice none 0 0], ro A (ints mod)]) (fun (x : Int) (pp : Int) (mm : Int) (Mo : Option Addr) (mc : Nat) (md : List Int) (N5 : Int) (G : Option Addr) (r5 : List RowM) => (0 ≤ x ∧ x ≤ fs.length) ∧ Gd (pw p m) w.toNat r5 ∧ r5.length ≤ 64 ∧ (∀ u, Vc.SpL (vsR r5 : List (Vc (El p m mod))) u ↔ Vc.SpL (quV p m mod (quX k.toNat (us.take x.toNat))) u) ∧ (∀ z : Nat, (z : Int) < x → AllIn (pw p m) (fs.getD z rowD).xs) ∧ (x = 0 ∨ (pp = p ∧ mm = m ∧ md = mod ∧ N5 = w ∧ CdOf p m mod w.toNat r5 (Vc.SpL (quV p m mod (quX k.toNat (us.take x.toNat))))))) (fun (x : Int) (pp : Int) (mm : Int) (Mo : Option Addr) (mc : Nat) (md : List Int) (N5 : Int) (G : Option Addr) (r5 : List RowM) => ((fs.length : Int) - x).toNat) (0) (0) (0) (none) (0) ([]) (0) (none) ([]) ⟨rfl, rfl, rfl, rfl, rfl, rfl, rfl, rfl, trivial⟩ (by first | exact cs _ _ | exact CSub.refl _) (⟨⟨by omega, by omega⟩, Gd.nil _ _, by simp, fun u => cd_nil u, fun z hz => by omega, .inl rfl⟩) (fun x pp mm Mo mc md N5 G r5 hI => ?_)
      obtain ⟨⟨hx0, hx1⟩, hg5, hr5, hs5, hen, hcd⟩ := hI
      refine tS ?_
      refine tR fun _ _ _ => ?_
      refine pV ?_
      refine tS ?_
      refine tC rfl (fun h27 => ?_) (fun h27 => ?_)
      ·try simp only [zbA] at h27
       refine tK ?_
       refine tS ?_
       refine tB ?_
       refine tS ?_
       haveI : InB x.toNat fs.length := ⟨by omega⟩
       have hfwx := hfw x.toNat (by omega)
       have hfxx := hfx x.toNat (by omega)
       refine tR fun _ _ _ => ?_
       refine sV (rIdxR rfl rfl rfl (by omega) (by omega) (by omega)) ?_
       refine sV (rLdR rfl rfl (by omega)) ?_
       refine pV ?_
       refine tS ?_
       refine tR fun _ _ _ => ?_
       refine sV (rFld rfl rfl) ?_
       refine sV (rLdF rfl rfl rfl) ?_
       refine eV (eCall1 rfl rfl rfl (slc_CloneR G r5.length r5 (by omega)) ⟨rfl, trivial⟩ ?_)
       rintro _ _ ⟨B29, c29, rfl, rfl⟩
       refine pV ?_
       refine tS ?_
       refine tS ?_
       refine tr_chunks _ ((cs _ [rowsX r5, rowsR fs, ow B29 22 c29 (hdrs r5), blk p25 28 [.int .i64 pp, .int .i64 mm, .slice Mo md.length mc, .int .i64 N5, .slice G r5.length r5.length], ow B 22 cb (hdrs fs), blk p0 24 [.int .i64 p, .int .i64 m, .slice A mod.length c], blk p0a 28 [.int .i64 0, .int .i64 0, .slice none 0 0, .int .i64 0, .slice none 0 0], ro A (ints mod)]).trans ((rowsX_weak _).trans (CSub.cons _ (row_ro (getD_mem (show x.toNat < fs.length by omega) rowD) _)))) ?_
       refine tR fun _ _ _ => ?_
       iterate 2 refine pV ?_
       refine tB ?_
       refine tr_loop7 (fun (j : Int) (D : Option Addr) (cd : Nat) (qs : List RowM) (R : Option Addr) (rc : Nat) (y : List Int) => [(86, .int .i64 j), (18, .slice D qs.length cd), (17, .slice R y.length rc), (14, .int .i64 w), (1, .int .i64 k), (3, .pointer (some p0)), (6, .pointer (some p0a)), (15, .pointer (some p25)), (76, .slice B fs.length cb), (77, .int .i64 fs.length), (78, .int .i64 x), (84, .slice B29 r5.length c29), (85, .int .i64 k)]) (fun (j : Int) (D : Option Addr) (cd : Nat) (qs : List RowM) (R : Option Addr) (rc : Nat) (y : List Int) => [ow D 22 cd (hdrs qs), rowsR qs, ro R (ints y), blk p25 28 [.int .i64 pp, .int .i64 mm, .slice Mo md.length mc, .int .i64 N5, .slice G r5.length r5.length], ow B 22 cb (hdrs fs), rowsR fs, blk p0 24 [.int .i64 p, .int .i64 m, .slice A mod.length c], blk p0a 28 [.int .i64 0, .int .i64 0, .slice none 0 0, .int .i64 0, .slice none 0 0], ro A (ints mod)]) (fun (j : Int) (D : Option Addr) (cd : Nat) (qs : List RowM) (R : Option Addr) (rc : Nat) (y : List Int) => (0 ≤ j ∧ j ≤ k) ∧ (qs.length : Int) = r5.length + j ∧ xss qs = xss r5 ++ quL k.toNat j.toNat (fs.getD x.toNat rowD).xs ∧ y = shIt k.toNat j.toNat (fs.getD x.toNat rowD).xs) (fun (j : Int) (D : Option Addr) (cd : Nat) (qs : List RowM) (R : Option Addr) (rc : Nat) (y : List Int) => (k - j).toNat) (0) (B29) (c29) (r5) ((fs.getD x.toNat rowD).A) ((fs.getD x.toNat rowD).cap) ((fs.getD x.toNat rowD).xs) ⟨rfl, rfl, rfl, rfl, rfl, rfl, rfl, rfl, rfl, rfl, rfl, rfl, rfl, trivial⟩ (by first | exact cs _ _ | exact CSub.refl _) (⟨⟨by omega, by omega⟩, by simp, by simp [quL], rfl⟩) (fun j D cd qs R rc y hI => ?_)
       obtain ⟨⟨hj0, hj1⟩, hql, hqx, hy⟩ := hI
       have hyl : y.length = (fs.getD x.toNat rowD).xs.length := by rw [hy, shIt_length]
       refine tS ?_
       refine tR fun _ _ _ => ?_
       refine pV ?_
       refine tS ?_
       refine tC rfl (fun h31 => ?_) (fun h31 => ?_)
       ·try simp only [zbA] at h31
        refine tK ?_
        refine tS ?_
        refine tB ?_
        refine tS ?_
        have hkd : k.toNat ∣ y.length := dvd_of_mul (L := (us.getD 0 cubD).rs.length) (by omega) (by omega)
        refine tR fun _ _ _ => ?_
        iterate 2 refine pV ?_
        refine eV (eLit1 rfl rfl rfl rfl rfl (fun A32 => ?_))
        refine eV (eAppR rfl rfl rfl rfl rfl (by first | rfl | simp | omega) (by omega) (fun A32a c32a => ?_))
        refine pV ?_
        refine tR fun _ _ _ => ?_
        iterate 2 refine pV ?_
        refine eV (eCall1 rfl rfl rfl (cyc_shift k (by omega) (by omega) R _ rc y rfl (by omega) hkd) ⟨rfl, rfl, trivial⟩ ?_)
        rintro _ _ ⟨B33, rfl, rfl⟩
        refine pV ?_
        rw [show y.length = (shF k.toNat y).length from (shF_length _ _).symm]
        refine tR fun _ _ _ => ?_
        refine sV (rAdd rfl rfl rfl (by omega) (by omega)) ?_
        refine pV ?_
        refine ⟨j + 1, A32a, c32a, qs ++ [⟨R, rc, y⟩], B33, (shF k.toNat y).length, shF k.toNat y, ⟨rfl, rfl, rfl, rfl, rfl, rfl, rfl, rfl, rfl, rfl, rfl, rfl, rfl, trivial⟩, by exact qrow_app (r := ⟨R, rc, y⟩) (e := 3) (cb := (shF k.toNat y).length), ?_⟩
        exact ⟨⟨⟨by omega, by omega⟩, by rw [List.length_append]; simp; omega, by rw [xss_snoc, hqx, show (j + 1).toNat = j.toNat + 1 by omega, quL_succ, ← List.append_assoc, ← hy], by rw [show (j + 1).toNat = j.toNat + 1 by omega, shIt, ← hy]⟩, by omega⟩
       ·try simp only [zbA] at h31
        refine tE ?_
        refine tS ?_
        refine tR fun _ _ _ => ?_
        refine pV ?_
        refine tS ?_
        have hjk : j.toNat = k.toNat := by omega
        rw [hjk] at hqx
        have hqq : ∀ r ∈ xss qs, r.length = w.toNat := fun r hr => by
         rw [hqx] at hr
         rcases List.mem_append.1 hr with hr | hr
         ·obtain ⟨s, hs, rfl⟩ := List.mem_map.1 hr
          exact (hg5 s hs).1
         ·obtain ⟨t, rfl⟩ := quL_mem hr
          rw [shIt_length]; omega
        have hq8 : ∀ r ∈ qs, r.xs.length ≤ 17592186044415 := fun r hr => by have := hqq r.xs (List.mem_map.2 ⟨r, hr, rfl⟩); omega
        have hrc := rowsC_2 (q := pw p m) (w := w) (rs := qs) (by omega) (by omega) (by omega) fun r hr => by have := hqq r hr; omega
        have hqi : AllIn (pw p m) (fs.getD x.toNat rowD).xs → ∀ r ∈ xss qs, AllIn (pw p m) r := fun h r hr => by
         rw [hqx] at hr
         rcases List.mem_append.1 hr with hr | hr
         ·obtain ⟨s, hs, rfl⟩ := List.mem_map.1 hr
          exact (hg5 s hs).2
         ·obtain ⟨t, rfl⟩ := quL_mem hr
          exact shIt_in (by omega) h t
        refine tR fun _ _ _ => ?_
        refine sV (rLdS rfl rfl rfl) ?_
        iterate 2 refine pV ?_
        refine sV (rBuild rfl rfl) ?_
        refine eV (eCall3 rfl rfl rfl (code_NewX p m A c mod w D _ cd qs rfl (by omega) hw1 hw64 hq8) ⟨rfl, rfl, trivial⟩ ?_)
        rintro _ _ _ _ ⟨pp2, mm2, Mo2, mc2, md2, N52, G2, r52, rfl, rfl, rfl, rfl, hC⟩
        iterate 3 refine pV ?_
        refine eV (eStS rfl rfl rfl rfl rfl rfl ?_)
        refine pV ?_
        refine tS ?_
        refine tR fun _ _ _ => ?_
        iterate 2 refine pV ?_
        refine tC rfl (fun h37 => ?_) (fun h37 => ?_)
        ·try simp only [zbA] at h37
         refine tS ?_
         refine tR fun _ _ _ => ?_
         refine sV (rBuild rfl rfl) ?_
         refine pV ?_
         refine eV (eStS rfl rfl rfl rfl rfl rfl ?_)
         refine pV ?_
         obtain ⟨hr2, hr3⟩ := hrc.resolve_left fun h => h37 h.1
         have hqe : quE p m mod k us = 2 := quE_ent hF0 h4 hne hS hL1 fun h => hr3 (hqi (by rw [hfxx]; exact flat_in (h _ (getD_mem (by omega) cubD))))
         refine tr_chunks _ (ro_nil2 _) ?_
         exact tr_ret ⟨trivial, _, _, (.cell rfl (cellS rfl) (.tmp rfl .nil)), ⟨_, _, _, rfl, 0, 0, none, 0, [], 0, none, [], by rw [hqe, hr2]; rfl, rfl, rfl, rfl, fun _ => ⟨rfl, rfl⟩, fun h => by rw [hqe] at h; cases h⟩, cs _ _, trivial, trivial, trivial, trivial⟩
        ·try simp only [zbA] at h37
         refine tK ?_
         refine tR fun _ _ _ => ?_
         refine sV (rAdd rfl rfl rfl (by omega) (by omega)) ?_
         refine pV ?_
         refine ⟨x + 1, pp2, mm2, Mo2, mc2, md2, N52, G2, r52, ⟨rfl, rfl, rfl, rfl, rfl, rfl, rfl, rfl, trivial⟩, by first | exact cs _ _ | exact CSub.refl _, ?_⟩
         have hz0 : rowsC (pw p m) w (xss qs) = 0 := by omega
         obtain ⟨hgq, hnq⟩ : Gd (pw p m) w.toNat qs ∧ True := ⟨(hrc.resolve_right fun h => by omega).2, trivial⟩
         obtain ⟨e1, e2, e3, e4, hC⟩ := hC hz0
         have hvq : (vsR qs : List (Vc (El p m mod))) = vsR r5 ++ quV p m mod (quL k.toNat k.toNat (fs.getD x.toNat rowD).xs) := by rw [vsR_xss, hqx, List.map_append, ← vsR_xss]; rfl
         have hquo : quV p m mod (quX k.toNat (us.take (x + 1).toNat)) = quV p m mod (quX k.toNat (us.take x.toNat)) ++ quV p m mod (quL k.toNat k.toNat (fs.getD x.toNat rowD).xs) := by rw [show (x + 1).toNat = x.toNat + 1 by omega, quX_take (by omega), ← hfxx, quV, List.map_append]; rfl
         have hspn : ∀ u, Vc.SpL (vsR r52 : List (Vc (El p m mod))) u ↔ Vc.SpL (quV p m mod (quX k.toNat (us.take (x + 1).toNat))) u := fun u => by
          rw [hC.span, hvq, hquo]; exact spl_app_iff hs5 u
         have hle := hC.le
         refine ⟨⟨⟨by omega, by omega⟩, hC.good, by omega, hspn, fun z hz => ?_, .inr ⟨e1, e2, e3, e4, hC.good, hC.form, hspn⟩⟩, by omega⟩
         by_cases he : (z : Int) = x
         ·have : z = x.toNat := by omega
          subst this
          have hm : shIt k.toNat 0 (fs.getD x.toNat rowD).xs ∈ xss qs := by rw [hqx]; exact List.mem_append_right _ (List.mem_map.2 ⟨0, List.mem_range.2 (by omega), rfl⟩)
          obtain ⟨s, hs, e⟩ := List.mem_map.1 hm
          have := (hgq s hs).2
          rw [e] at this; exact this
         ·exact hen z (by omega)
      ·try simp only [zbA] at h27
       refine tE ?_
       refine tS ?_
       refine tR fun _ _ _ => ?_
       refine sV (rLdS rfl rfl rfl) ?_
       refine eV (eStS rfl rfl rfl rfl rfl rfl ?_)
       refine pV ?_
       have hxe : x.toNat = us.length := by omega
       obtain ⟨rfl, rfl, rfl, rfl, hC⟩ := hcd.resolve_left fun h => by have := List.length_pos_iff.2 hne; omega
       rw [hxe, List.take_length] at hC
       have hqe : quE pp mm md k us = 0 := quE_ok hF0 h4 hne hS hL1 (all_getD (d := cubD) fun z hz => flat_all (by rw [← hfx z hz]; exact hen z (by omega)))
       exact tr_ret ⟨trivial, _, _, (.cell rfl (cellS rfl) (.tmp rfl .nil)), ⟨_, _, _, rfl, _, _, _, _, _, _, _, _, by rw [hqe]; rfl, rfl, rfl, rfl, fun h => absurd hqe h, fun _ => ⟨rfl, rfl, rfl, hw0, hF, hC⟩⟩, cs _ _, trivial, trivial, trivial, trivial⟩
theorem ref_Quasi_ent : Enters Try.prog 8 := enters_of Try.func8 (by kernel_rfl) (by kernel_rfl)
theorem ref_Quasi (p m : Int) (A : Option Addr) (c : Nat) (mod : List Int) [hF : IsF p m mod] (hl9 : mod.length ≤ 17592186044415) (k : Int) (U : Option Addr) (nu cu : Nat) (us : List CubM) (hnu : nu = us.length) (hu9 : us.length ≤ 20) (hb : ∀ c ∈ us, c.rs.length ≤ 1048576 ∧ (flat c.rs).length ≤ 1048576) (hq : QuOk p m mod k us) (w : Int) (hw : w = (us.getD 0 cubD).rs.length * k) :
  Pure Try.prog 8 #[.agg #[.int .i64 p, .int .i64 m, .slice A mod.length c], .int .i64 k, .slice U nu cu] [ro A (ints mod), ro U (cubH us), cubR us] (three (fun v ca cb cc => ∃ Bm cm B cg r3, v = .agg #[.int .i64 p, .int .i64 m, .slice Bm mod.length cm, .int .i64 w, .slice B r3.length cg] ∧ ca = ow Bm 3 cm (ints mod) ∧ cb = ow B 22 cg (hdrs r3) ∧ cc = rowsCh 3 r3 ∧ CdOf p m mod w.toNat r3 (Vc.SpL (quV p m mod (quX k.toNat us))))) := by
 have hk1 := hq.k1
 have hL1 := hq.len
 have h64 := hq.n64
 have hw1 : 1 ≤ w := by rw [hw]; exact Int.mul_pos (by omega) (by omega)
 have hw64 : w ≤ 64 := by omega
 have hk64 := le_of_mul (show ¬ k < 1 by omega) hw hw1
 have hq2 := hF.q2
 have hne : us.length ≠ 0 := fun h => hq.ne (List.length_eq_zero_iff.1 h)
 have hfw : ∀ c ∈ us, ((flat c.rs).length : Int) = w := fun c hc => by rw [hw]; exact hq.flat_len hc
 refine pure_ofC (args := [.agg #[.int .i64 p, .int .i64 m, .slice A mod.length c], .int .i64 k, .slice U nu cu]) 57 Try.func8 rfl rfl rfl ref_Quasi_ent ⟨id, id, id, trivial⟩ (fun w0 => ?_)
 refine tS ?_
 refine tR fun _ _ _ => ?_
 refine eV (eBox rfl rfl rfl rfl rfl (fun p0 => ?_))
 refine eV (eAlloc rfl rfl rfl (fun p0a => ?_))
 refine tS ?_
 refine tR fun _ _ _ => ?_
 refine pV ?_
 refine tS ?_
 refine tS ?_
 refine tR fun _ _ _ => ?_
 refine pV ?_
 refine tB ?_
 refine tr_nilR 22 3 ?_
 refine tr_loop4 (fun (i : Int) (D : Option Addr) (cd : Nat) (qs : List RowM) => [(7, .slice D qs.length cd), (8, .int .i64 i), (1, .int .i64 k), (2, .slice U nu cu), (3, .pointer (some p0)), (6, .pointer (some p0a))]) (fun (i : Int) (D : Option Addr) (cd : Nat) (qs : List RowM) => [ow D 22 cd (hdrs qs), rowsCh 3 qs, cubR us, blk p0 24 [.int .i64 p, .int .i64 m, .slice A mod.length c], blk p0a 28 [.int .i64 0, .int .i64 0, .slice none 0 0, .int .i64 0, .slice none 0 0], ro A (ints mod), ro U (cubH us)]) (fun (i : Int) (D : Option Addr) (cd : Nat) (qs : List RowM) => (0 ≤ i ∧ i ≤ nu) ∧ (qs.length : Int) ≤ 64 * i ∧ xss qs = quX k.toNat (us.take i.toNat)) (fun (i : Int) (D : Option Addr) (cd : Nat) (qs : List RowM) => (nu - i).toNat) (0) (none) (0) ([]) ⟨rfl, rfl, rfl, rfl, rfl, rfl, trivial⟩ (by first | exact cs _ _ | exact CSub.refl _) (⟨⟨by omega, by omega⟩, by simp, rfl⟩) (fun i D cd qs hI => ?_)
 obtain ⟨⟨hi0, hi1⟩, hql, hqx⟩ := hI
 refine tS ?_
 refine tS ?_
 refine tR fun _ _ _ => ?_
 iterate 2 refine pV ?_
 refine sV (rLen rfl rfl) ?_
 refine pV ?_
 refine tC rfl (fun h3 => ?_) (fun h3 => ?_)
 ·try simp only [zbA] at h3
  refine tK ?_
  refine tS ?_
  refine tB ?_
  refine tS ?_
  haveI : InB i.toNat us.length := ⟨by omega⟩
  have hui : (us.getD i.toNat cubD) ∈ us := getD_mem (by omega) cubD
  obtain ⟨hui8, hui9⟩ := hb _ hui
  refine tr_chunks _ ((cs _ [cubR us, ow D 22 cd (hdrs qs), rowsCh 3 qs, blk p0 24 [.int .i64 p, .int .i64 m, .slice A mod.length c], blk p0a 28 [.int .i64 0, .int .i64 0, .slice none 0 0, .int .i64 0, .slice none 0 0], ro A (ints mod), ro U (cubH us)]).trans (cub_out hui _)) ?_
  have hfi := hfw _ hui
  refine tR fun _ _ _ => ?_
  refine pV ?_
  refine tS ?_
  refine tS ?_
  refine tR fun _ _ _ => ?_
  refine pV ?_
  refine tB ?_
  refine tr_nilI 3 ?_
  refine tr_loop4 (fun (j : Int) (R : Option Addr) (rc : Nat) (y : List Int) => [(9, .slice R y.length rc), (10, .int .i64 j), (1, .int .i64 k), (2, .slice U nu cu), (3, .pointer (some p0)), (6, .pointer (some p0a)), (7, .slice D qs.length cd), (8, .int .i64 i), (12, .int .i64 i), (13, .slice U nu cu), (14, .int .i64 nu)]) (fun (j : Int) (R : Option Addr) (rc : Nat) (y : List Int) => [ow R 3 rc (ints y), ow D 22 cd (hdrs qs), rowsCh 3 qs, ro (us.getD i.toNat cubD).A (hdrs (us.getD i.toNat cubD).rs), rowsR (us.getD i.toNat cubD).rs, cubR us, blk p0 24 [.int .i64 p, .int .i64 m, .slice A mod.length c], blk p0a 28 [.int .i64 0, .int .i64 0, .slice none 0 0, .int .i64 0, .slice none 0 0], ro A (ints mod), ro U (cubH us)]) (fun (j : Int) (R : Option Addr) (rc : Nat) (y : List Int) => (0 ≤ j ∧ j ≤ (us.getD i.toNat cubD).rs.length) ∧ y = flat ((us.getD i.toNat cubD).rs.take j.toNat)) (fun (j : Int) (R : Option Addr) (rc : Nat) (y : List Int) => ((us.getD i.toNat cubD).rs.length - j).toNat) (0) (none) (0) ([]) ⟨rfl, rfl, rfl, rfl, rfl, rfl, rfl, rfl, rfl, rfl, rfl, trivial⟩ (by first | exact cs _ _ | exact CSub.refl _) (⟨⟨by omega, by omega⟩, rfl⟩) (fun j R rc y hI => ?_)
  obtain ⟨⟨hj0, hj1⟩, hy⟩ := hI
  refine tS ?_
  refine tS ?_
  refine tR fun _ _ _ => ?_
  iterate 3 refine pV ?_
  refine sV (rIdx rfl rfl rfl (by omega) (by omega) (by simp; omega)) ?_
  refine sV (rLdC rfl rfl (by omega)) ?_
  refine sV (rLen rfl rfl) ?_
  refine pV ?_
  refine tC rfl (fun h7 => ?_) (fun h7 => ?_)
  ·try simp only [zbA] at h7
   refine tK ?_
   refine tS ?_
   refine tB ?_
   haveI : InB j.toNat (us.getD i.toNat cubD).rs.length := ⟨by omega⟩
   have hft := flat_take (rs := (us.getD i.toNat cubD).rs) (i := j.toNat) (by omega)
   have hfl := flat_take_le (us.getD i.toNat cubD).rs j.toNat
   rw [← hy] at hfl
   have hrf := row_flat (getD_mem (show j.toNat < (us.getD i.toNat cubD).rs.length by omega) rowD)
   refine tR fun _ _ _ => ?_
   iterate 3 refine pV ?_
   refine sV (rIdx rfl rfl rfl (by omega) (by omega) (by simp; omega)) ?_
   refine sV (rLdC rfl rfl (by omega)) ?_
   refine pV ?_
   refine sV (rIdxR rfl rfl rfl (by omega) (by omega) (by omega)) ?_
   refine sV (rLdR rfl rfl (by omega)) ?_
   refine eV (eAppI rfl rfl rfl rfl rfl (by first | rfl | simp | omega) (by first | rfl | simp | omega) (by first | omega | (simp; omega)) (fun A9 c9 => ?_))
   refine pV ?_
   refine tR fun _ _ _ => ?_
   refine pV ?_
   refine sV (rAdd rfl rfl rfl (by omega) (by omega)) ?_
   refine pV ?_
   refine ⟨j + 1, A9, c9, y ++ ((us.getD i.toNat cubD).rs.getD j.toNat rowD).xs, ⟨rfl, rfl, rfl, rfl, rfl, rfl, rfl, rfl, rfl, rfl, rfl, trivial⟩, by first | exact cs _ _ | exact CSub.refl _, ?_⟩
   exact ⟨⟨⟨by omega, by omega⟩, by rw [show (j + 1).toNat = j.toNat + 1 by omega, hft, hy]⟩, by omega⟩
  ·try simp only [zbA] at h7
   refine tE ?_
   refine tS ?_
   have hje : j.toNat = (us.getD i.toNat cubD).rs.length := by omega
   rw [hje, List.take_length] at hy
   subst hy
   refine tR fun _ _ _ => ?_
   refine pV ?_
   refine tB ?_
   refine tr_loop7 (fun (x : Int) (D2 : Option Addr) (cd2 : Nat) (q2 : List RowM) (R : Option Addr) (rc : Nat) (y : List Int) => [(11, .int .i64 x), (7, .slice D2 q2.length cd2), (9, .slice R y.length rc), (1, .int .i64 k), (2, .slice U nu cu), (3, .pointer (some p0)), (6, .pointer (some p0a)), (8, .int .i64 i), (10, .int .i64 j), (12, .int .i64 i), (13, .slice U nu cu), (14, .int .i64 nu), (18, .int .i64 j), (19, .slice U nu cu), (20, .int .i64 i)]) (fun (x : Int) (D2 : Option Addr) (cd2 : Nat) (q2 : List RowM) (R : Option Addr) (rc : Nat) (y : List Int) => [ow D2 22 cd2 (hdrs q2), rowsCh 3 q2, ow R 3 rc (ints y), cubR us, blk p0 24 [.int .i64 p, .int .i64 m, .slice A mod.length c], blk p0a 28 [.int .i64 0, .int .i64 0, .slice none 0 0, .int .i64 0, .slice none 0 0], ro A (ints mod), ro U (cubH us)]) (fun (x : Int) (D2 : Option Addr) (cd2 : Nat) (q2 : List RowM) (R : Option Addr) (rc : Nat) (y : List Int) => (0 ≤ x ∧ x ≤ k) ∧ (q2.length : Int) = qs.length + x ∧ xss q2 = xss qs ++ quL k.toNat x.toNat (flat (us.getD i.toNat cubD).rs) ∧ y = shIt k.toNat x.toNat (flat (us.getD i.toNat cubD).rs)) (fun (x : Int) (D2 : Option Addr) (cd2 : Nat) (q2 : List RowM) (R : Option Addr) (rc : Nat) (y : List Int) => (k - x).toNat) (0) (D) (cd) (qs) (R) (rc) (flat (us.getD i.toNat cubD).rs) ⟨rfl, rfl, rfl, rfl, rfl, rfl, rfl, rfl, rfl, rfl, rfl, rfl, rfl, rfl, rfl, trivial⟩ (by first | exact cs _ _ | exact CSub.refl _) (⟨⟨by omega, by omega⟩, by simp, by simp [quL], rfl⟩) (fun x D2 cd2 q2 R rc y hI => ?_)
   obtain ⟨⟨hx0, hx1⟩, h2l, h2x, hyx⟩ := hI
   have hyl : y.length = (flat (us.getD i.toNat cubD).rs).length := by rw [hyx, shIt_length]
   refine tS ?_
   refine tS ?_
   refine tR fun _ _ _ => ?_
   iterate 3 refine pV ?_
   refine tC rfl (fun h11 => ?_) (fun h11 => ?_)
   ·try simp only [zbA] at h11
    refine tK ?_
    refine tS ?_
    refine tB ?_
    refine tS ?_
    refine tR fun _ _ _ => ?_
    iterate 2 refine pV ?_
    refine eV (eLit1 rfl rfl rfl rfl rfl (fun A13 => ?_))
    refine eV (eAppR rfl rfl rfl rfl rfl (by first | rfl | simp | omega) (by omega) (fun A13a c13a => ?_))
    refine pV ?_
    have hkd : k.toNat ∣ y.length := dvd_of_mul (L := (us.getD 0 cubD).rs.length) (by omega) (by omega)
    refine tr_cap R 3 rc (ints y) fun hcy => ?_
    rw [ints_length] at hcy
    refine tR fun _ _ _ => ?_
    iterate 2 refine pV ?_
    refine eV (eCall1 rfl rfl rfl (ref_Blocks R _ rc y rfl (by omega) hcy k (by omega) (by omega) hkd) ⟨rfl, rfl, trivial⟩ ?_)
    rintro _ _ ⟨B14, c14, rfl, rfl⟩
    refine pV ?_
    refine tR fun _ _ _ => ?_
    refine pV ?_
    refine sV (rAdd rfl rfl rfl (by omega) (by omega)) ?_
    refine pV ?_
    refine ⟨x + 1, A13a, c13a, q2 ++ [⟨R, rc, y⟩], B14, c14, shF k.toNat y, ⟨rfl, rfl, rfl, rfl, rfl, rfl, rfl, rfl, rfl, rfl, rfl, rfl, rfl, rfl, rfl, trivial⟩, by exact rows_app (r := ⟨R, rc, y⟩), ?_⟩
    exact ⟨⟨⟨by omega, by omega⟩, by rw [List.length_append]; simp; omega, by rw [xss_snoc, h2x, show (x + 1).toNat = x.toNat + 1 by omega, quL_succ, ← List.append_assoc, ← hyx], by rw [show (x + 1).toNat = x.toNat + 1 by omega, shIt, ← hyx]⟩, by omega⟩
   ·try simp only [zbA] at h11
    refine tE ?_
    refine tR fun _ _ _ => ?_
    refine pV ?_
    refine sV (rAdd rfl rfl rfl (by omega) (by omega)) ?_
    refine pV ?_
    refine ⟨i + 1, D2, cd2, q2, ⟨rfl, rfl, rfl, rfl, rfl, rfl, trivial⟩, by first | exact cs _ _ | exact CSub.refl _, ?_⟩
    have hxk : x.toNat = k.toNat := by omega
    exact ⟨⟨⟨by omega, by omega⟩, by omega, by rw [show (i + 1).toNat = i.toNat + 1 by omega, quX_take (by omega), h2x, hqx, hxk]⟩, by omega⟩
 ·try simp only [zbA] at h3
  refine tE ?_
  refine tS ?_
  have hie : i.toNat = us.length := by omega
  rw [hie, List.take_length] at hqx
  have hgq : Gd (pw p m) w.toNat qs := gd_of_xss (rs := []) (Gd.nil _ _) (by rw [hqx]; rfl) fun r hr => by
   obtain ⟨u, hu, hr⟩ := List.mem_flatMap.1 hr
   obtain ⟨t, rfl⟩ := quL_mem hr
   have h1 := hfw u hu
   exact ⟨by rw [shIt_length]; omega, shIt_in (by omega) (flat_in (hq.ent u hu)) t⟩
  refine tr_draw [0, 1, 2, 3, 4, 5, 6, 7, 8] [9] mixed (by kernel_rfl) fun _ _ _ => ?_
  refine sV (rLdS rfl rfl rfl) ?_
  iterate 3 refine pV ?_
  refine sV (rIdx rfl rfl rfl (by omega) (by omega) (by simp; omega)) ?_
  refine sV (rLdC rfl rfl (by omega)) ?_
  simp only [Int.toNat_zero]
  have hwk : k * ((us.getD 0 cubD).rs.length : Int) = w := by rw [hw, Int.mul_comm]
  refine sV (rLen rfl rfl) ?_
  refine sV (rMul rfl rfl rfl (by omega) (by omega)) ?_
  rw [hwk]
  refine eV (eCall3 rfl rfl rfl (ref_Make p m A c mod w D _ cd qs rfl (by omega) hw1 hw64 hgq) ⟨rfl, rfl, rfl, trivial⟩ ?_)
  rintro _ _ _ _ ⟨Bm, cm, B9, cg, r9, rfl, rfl, rfl, rfl, hC⟩
  refine eV (eStS rfl rfl rfl rfl rfl rfl ?_)
  exact tr_ret ⟨trivial, _, _, (.cell rfl (cellS rfl) .nil), ⟨_, _, _, rfl, Bm, cm, B9, cg, r9, rfl, rfl, rfl, rfl, hC.iff fun u => by rw [vsR_xss, hqx]; exact Iff.rfl⟩, cs _ _, trivial, trivial, trivial, trivial⟩
end Go.Proofs.Ytdkahdehodopoaa

namespace Go.Proofs.Ytdkahdehodopoaa
open Go.ChangeShapes Go.WideShapes Go.ChangeAt Go.RowKit Go.Deep
instance : Inhabited CubM := ⟨cubD⟩
theorem bulk_one {H : Type} (d : DataW H) : 1 ≤ Rows.uptoBulk d := by
 cases d with
 | lit l => cases l <;> simp [Rows.uptoBulk]
 | nil => simp [Rows.uptoBulk]
 | ptr d => simp [Rows.uptoBulk]
 | slice elems spare => simp [Rows.uptoBulk]
 | agg parts => simp [Rows.uptoBulk]
 | iface t d => simp [Rows.uptoBulk]
 | map entries => simp [Rows.uptoBulk]
 | held h => simp [Rows.uptoBulk]
theorem bulk_part {H : Type} {d : DataW H} : ∀ {l : List (DataW H)}, d ∈ l → Rows.uptoBulk d ≤ Rows.uptoBulkAll l
 | x :: r, h => by
  simp only [Rows.uptoBulkAll]
  rcases List.mem_cons.1 h with rfl | h
  ·omega
  ·have := bulk_part h; omega
theorem bulk_len {H : Type} : ∀ l : List (DataW H), l.length ≤ Rows.uptoBulkAll l
 | [] => by simp
 | x :: r => by have := bulk_one x; have := bulk_len r; simp only [Rows.uptoBulkAll, List.length_cons]; omega
theorem bulk_slice {H : Type} (a b : List (DataW H)) : Rows.uptoBulkAll a + 1 ≤ Rows.uptoBulk (.slice a b) := by simp only [Rows.uptoBulk]; omega
theorem bulk_flat {H : Type} (D : Nat → DataW H) (R : Nat → RowM) : ∀ L : List Nat, (∀ i ∈ L, (R i).xs.length ≤ Rows.uptoBulk (D i)) → (flat (L.map R)).length ≤ Rows.uptoBulkAll (L.map D)
 | [], _ => by simp [flat]
 | i :: L, h => by
  have h1 := h i (by simp)
  have h2 := bulk_flat D R L fun j hj => h j (by simp [hj])
  rw [flat] at h2
  simp only [flat, List.map_cons, List.flatMap_cons, List.length_append, Rows.uptoBulkAll]
  omega
section
variable {H : Type} {enc : TypeId × Value → H} {P : Program} {w : World} {held : Bool} {t e f g : TypeId} {fuel : Nat} {cs : List Value} {x : DataW H × List MemPlace}
theorem open_ISu (ht : P.underlying t = some (.slice e)) (he : P.underlying e = some (.int .i64)) (hc : P.cellsOf e = 1) (h : DataW.trod enc P w 0 (fun _ => true) held fuel t cs = some x) :
  ∃ (A : Option Addr) (c : Nat) (xs : List Int), cs = [.slice A xs.length c] ∧ (ro A (ints xs)).sat w ∧ xs.length ≤ Rows.uptoBulk x.1 := by
 rcases open_ints ht he hc h with ⟨rfl, _⟩ | ⟨a, len, cap, zs, rfl, _, hl, hm, hz, hx, hcell, hwz⟩
 ·exact ⟨none, 0, [], rfl, fun j hj => by simp [ints] at hj, by simp⟩
 ·simp only [if_true] at hz
  have hlen : (zs.take len).length = len := by rw [List.length_take]; omega
  refine ⟨some a, cap, zs.take len, by rw [hlen], fun j hj => ?_, ?_⟩
  ·rw [ints_length, hlen] at hj
   refine ⟨a, rfl, ?_⟩
   rw [hcell j (by omega)]
   have hj' : j < zs.length := by omega
   simp [ints, hj']
  ·rw [hx]
   have h1 := bulk_slice (lits .i64 (zs.take len) : List (DataW H)) (lits .i64 (zs.drop len))
   have h2 := bulk_len (lits .i64 (zs.take len) : List (DataW H))
   have h3 : (lits .i64 (zs.take len) : List (DataW H)).length = (zs.take len).length := by simp [lits]
   show (zs.take len).length ≤ Rows.uptoBulk (.slice (lits .i64 (zs.take len) : List (DataW H)) (lits .i64 (zs.drop len)))
   omega
theorem open_ISSu (ht : P.underlying t = some (.slice e)) (he : P.underlying e = some (.slice f)) (hf : P.underlying f = some (.int .i64)) (hc : P.cellsOf e = 1) (hcf : P.cellsOf f = 1) (h : DataW.trod enc P w 0 (fun _ => true) held fuel t cs = some x) :
  ∃ (A : Option Addr) (c : Nat) (rs : List RowM), cs = [.slice A rs.length c] ∧ (ro A (hdrs rs)).sat w ∧ (rowsR rs).sat w ∧ rs.length ≤ Rows.uptoBulk x.1 ∧ (flat rs).length ≤ Rows.uptoBulk x.1 := by
 rcases open_slice1 ht hc h with ⟨rfl, _⟩ | ⟨a, len, cap, m, n, V, D, Pl, rfl, _, hl, hm, hmm, hx, hcell⟩
 ·exact ⟨none, 0, [], rfl, fun j hj => by simp [hdrs] at hj, fun r hr => by simp at hr, by simp, by simp [flat]⟩
 ·simp only [if_true] at hmm
  obtain ⟨R, hR⟩ := choose_lt (α := RowM) (n := len) (p := fun i r => V i = r.hdr ∧ (ro r.A (ints r.xs)).sat w ∧ r.xs.length ≤ Rows.uptoBulk (D i)) (fun i hi => by
   obtain ⟨A, c, xs, h1, h2, h3⟩ := open_ISu he hf hcf (hcell i (by omega)).2
   refine ⟨⟨A, c, xs⟩, ?_, h2, h3⟩
   simpa [RowM.hdr] using h1)
  have hlen : ((List.range len).map R).length = len := by simp
  have h1 := bulk_slice ((List.range len).map D) ((List.range (m - len)).map fun j => D (len + j))
  have h2 := bulk_len ((List.range len).map D)
  simp only [List.length_map, List.length_range] at h2
  refine ⟨some a, cap, (List.range len).map R, by rw [hlen], fun j hj => ?_, fun r hr => ?_, ?_, ?_⟩
  ·have hj' : j < len := by simpa [hdrs] using hj
   refine ⟨a, rfl, ?_⟩
   rw [(hcell j (by omega)).1, (hR j hj').1]
   simp [hdrs]
  ·obtain ⟨i, hi, rfl⟩ := List.mem_map.1 hr
   exact (hR i (List.mem_range.1 hi)).2.1
  ·rw [hlen, hx]; show len ≤ Rows.uptoBulk (.slice ((List.range len).map D) ((List.range (m - len)).map fun j => D (len + j))); omega
  ·have h3 := bulk_flat D R (List.range len) fun i hi => (hR i (List.mem_range.1 hi)).2.2
   rw [hx]; show (flat ((List.range len).map R)).length ≤ Rows.uptoBulk (.slice ((List.range len).map D) ((List.range (m - len)).map fun j => D (len + j))); omega
theorem open_I3u (ht : P.underlying t = some (.slice e)) (he : P.underlying e = some (.slice f)) (hf : P.underlying f = some (.slice g)) (hg : P.underlying g = some (.int .i64)) (hc : P.cellsOf e = 1) (hcf : P.cellsOf f = 1) (hcg : P.cellsOf g = 1) (h : DataW.trod enc P w 0 (fun _ => true) held fuel t cs = some x) :
  ∃ (A : Option Addr) (c : Nat) (us : List CubM), cs = [.slice A us.length c] ∧ (ro A (cubH us)).sat w ∧ (cubR us).sat w ∧ us.length ≤ Rows.uptoBulk x.1 ∧ ∀ c ∈ us, c.rs.length ≤ Rows.uptoBulk x.1 ∧ (flat c.rs).length ≤ Rows.uptoBulk x.1 := by
 rcases open_slice1 ht hc h with ⟨rfl, _⟩ | ⟨a, len, cap, m, n, V, D, Pl, rfl, _, hl, hm, hmm, hx, hcell⟩
 ·exact ⟨none, 0, [], rfl, fun j hj => by simp [cubH] at hj, fun r hr => by simp at hr, by simp, fun r hr => by simp at hr⟩
 ·simp only [if_true] at hmm
  obtain ⟨R, hR⟩ := choose_lt (α := CubM) (n := len) (p := fun i r => V i = r.hdr ∧ (ro r.A (hdrs r.rs)).sat w ∧ (rowsR r.rs).sat w ∧ r.rs.length ≤ Rows.uptoBulk (D i) ∧ (flat r.rs).length ≤ Rows.uptoBulk (D i)) (fun i hi => by
   obtain ⟨A, c, xs, h1, h2, h3, h4, h5⟩ := open_ISSu he hf hg hcf hcg (hcell i (by omega)).2
   refine ⟨⟨A, c, xs⟩, ?_, h2, h3, h4, h5⟩
   simpa [CubM.hdr] using h1)
  have hlen : ((List.range len).map R).length = len := by simp
  have h1 := bulk_slice ((List.range len).map D) ((List.range (m - len)).map fun j => D (len + j))
  have h2 := bulk_len ((List.range len).map D)
  simp only [List.length_map, List.length_range] at h2
  refine ⟨some a, cap, (List.range len).map R, by rw [hlen], fun j hj => ?_, fun r hr => ?_, ?_, fun r hr => ?_⟩
  ·have hj' : j < len := by simpa [cubH] using hj
   refine ⟨a, rfl, ?_⟩
   rw [(hcell j (by omega)).1, (hR j hj').1]
   simp [cubH]
  ·obtain ⟨i, hi, rfl⟩ := List.mem_map.1 hr
   exact ⟨(hR i (List.mem_range.1 hi)).2.1, (hR i (List.mem_range.1 hi)).2.2.1⟩
  ·rw [hlen, hx]; show len ≤ Rows.uptoBulk (.slice ((List.range len).map D) ((List.range (m - len)).map fun j => D (len + j))); omega
  ·obtain ⟨i, hi, rfl⟩ := List.mem_map.1 hr
   have h3 := (hR i (List.mem_range.1 hi)).2.2.2
   have h4 := bulk_part (d := D i) (l := (List.range len).map D) (List.mem_map.2 ⟨i, hi, rfl⟩)
   rw [hx]; show (R i).rs.length ≤ Rows.uptoBulk (.slice ((List.range len).map D) ((List.range (m - len)).map fun j => D (len + j))) ∧ (flat (R i).rs).length ≤ Rows.uptoBulk (.slice ((List.range len).map D) ((List.range (m - len)).map fun j => D (len + j))); omega
end
section
variable {H : Type} {enc : TypeId × Value → H} {P : Program} {w : World} {b : Nat} {t e f g : TypeId} {v : Value} {d : DataW H} {p : List MemPlace}
theorem get_I3u (ht : P.underlying t = some (.slice e)) (he : P.underlying e = some (.slice f)) (hf : P.underlying f = some (.slice g)) (hg : P.underlying g = some (.int .i64)) (hc : P.cellsOf e = 1) (hcf : P.cellsOf f = 1) (hcg : P.cellsOf g = 1) (hv : Value.okWide P w .any b t v) (h : DataW.Trod enc P w 0 (fun _ => true) true t v d p) :
  ∃ A c us, v = .slice A us.length c ∧ (ro A (cubH us)).sat w ∧ (cubR us).sat w ∧ us.length ≤ Rows.uptoBulk d ∧ ∀ c ∈ us, c.rs.length ≤ Rows.uptoBulk d ∧ (flat c.rs).length ≤ Rows.uptoBulk d := by
 obtain ⟨a0, l0, c0, rfl⟩ := okWide_slice ht hv
 obtain ⟨fuel, hf'⟩ := h
 obtain ⟨A, c, us, h1, h2, h3, h4, h5⟩ := open_I3u ht he hf hg hc hcf hcg hf'
 simp [Value.cells] at h1
 exact ⟨A, c, us, by rw [h1.1, h1.2.1, h1.2.2], h2, h3, h4, h5⟩
end
end Go.Proofs.Ytdkahdehodopoaa

/-
  CYCLICDUALS, PART 7 OF 10. One sentence: the texts behind the law CyclicDuals, put together.
  Conditions: each theorem's own, written out in it.
-/
import Derived.Test.YtjmojhflnjbgaaaGreatK6
set_option linter.unusedSimpArgs false
set_option linter.unusedVariables false
set_option linter.unusedSectionVars false
set_option linter.unusedSimpArgs false
set_option linter.unusedVariables false
set_option maxRecDepth 100000
namespace Go.Proofs.YtjmojhflnjbgaaaGreat
open Go.RowKit

theorem rev_get (l : List Int) {k : Nat} (h : k < l.length) : l.reverse.getD k 0 = l.getD (l.length - 1 - k) 0 := by
  rw [List.getD_eq_getElem?_getD, List.getElem?_reverse h, ← List.getD_eq_getElem?_getD]
theorem rev_done {l o : List Int} (hl : o.length = l.length) (h : ∀ k : Nat, k < l.length → o.getD k 0 = l.getD (l.length - 1 - k) 0) : o = l.reverse := ext_getD (by rw [List.length_reverse, hl]) fun k => by
  by_cases hk : k < l.length
  · rw [rev_get l hk, h k hk]
  · rw [getD_out (by omega), getD_out (by rw [List.length_reverse]; omega)]
theorem allIn_rev {q : Int} {l : List Int} (h : AllIn q l) : AllIn q l.reverse := fun z hz => h z (List.mem_reverse.1 hz)
theorem gd_rev {q : Int} {w : Nat} {rs qs : List RowM} (h : Gd q w rs) (hq : xss qs = (xss rs).map List.reverse) : Gd q w qs := fun s hs => by
  have h1 : s.xs ∈ xss qs := xss_mem hs
  rw [hq] at h1
  obtain ⟨l, hl, he⟩ := List.mem_map.1 h1
  rw [xss] at hl
  obtain ⟨r, hr, rfl⟩ := List.mem_map.1 hl
  rw [← he]
  exact ⟨by rw [List.length_reverse]; exact (h r hr).1, allIn_rev (h r hr).2⟩
theorem take_xss {rs : List RowM} {j : Nat} (h : j < rs.length) : (xss rs).take (j + 1) = (xss rs).take j ++ [(rs.getD j rowD).xs] := by
  rw [List.take_add_one, List.getElem?_eq_getElem (show j < (xss rs).length by rw [xss_length]; exact h)]
  have := xss_getD rs j
  rw [List.getD_eq_getElem?_getD, List.getElem?_eq_getElem (show j < (xss rs).length by rw [xss_length]; exact h)] at this
  rw [← this]; rfl
theorem rev_step {rs qs : List RowM} {j : Nat} {A : Option Addr} {c : Nat} (h : j < rs.length) (hq : xss qs = ((xss rs).take j).map List.reverse) : xss (qs ++ [⟨A, c, (rs.getD j rowD).xs.reverse⟩]) = ((xss rs).take (j + 1)).map List.reverse := by
  rw [xss_snoc, hq, take_xss h, List.map_append]; rfl






section
variable {p m : Int} {mod : List Int} [hF : IsF p m mod]
theorem il_le2 (a : List Int) : (il (pol a : Po (El p m mod))).length ≤ a.length := by rw [il_length]; exact Po.len_le (pol_sh a)
theorem rec_rev (a : List Int) : Po.mon (pol (il (pol a : Po (El p m mod))).reverse : Po (El p m mod)) = recP (pol a) := by
  unfold recP
  rcases Nat.eq_zero_or_pos (Po.len (pol a : Po (El p m mod))) with h | h
  · have h0 := Po.eq_zero_of_len h
    rw [h0, il_zero, List.reverse_nil, pol_nil, rvP_zero]
  · rw [pol_rev (e := Po.len (pol a : Po (El p m mod)) - 1) (by rw [il_length]; omega), pol_il]
end

theorem ref_Recip_ent : Enters Tryz.prog 29 := enters_of Tryz.func29 (by kernel_rfl) (by kernel_rfl)
theorem ref_Recip (p m : Int) (A : Option Addr) (c : Nat) (mod : List Int) [hF : IsF p m mod] (Xa : Option Addr) (na ca : Nat) (a : List Int) (hna : na = a.length) (ha9 : a.length ≤ 1000000) :
    Pure Tryz.prog 29 #[.agg #[.int .i64 p, .int .i64 m, .slice A mod.length c], .slice Xa na ca] [ro A (ints mod), ro Xa (ints a)] (one (fun v ch => ∃ B cap, v = .slice B (il (recP (pol a : Po (El p m mod)))).length cap ∧ ch = ow B 3 cap (ints (il (recP (pol a : Po (El p m mod))))))) := by
  have hil := il_le2 (p := p) (m := m) (mod := mod) a
  refine pure_of (args := [.agg #[.int .i64 p, .int .i64 m, .slice A mod.length c], .slice Xa na ca]) 33 Tryz.func29 rfl rfl rfl ref_Recip_ent ⟨id, id, trivial⟩ (fun w0 => ?_)
  refine tr_seq ?_
  refine tr_region fun _ _ _ => ?_
  refine ef rfl rfl (eBox rfl rfl rfl rfl rfl (fun p0 => ?_)) 
  refine pu rfl rfl rfl rfl rfl ?_
  refine tr_seq ?_
  refine tr_region fun _ _ _ => ?_
  refine st rfl rfl rfl rfl (rLdS rfl rfl rfl) ?_
  refine pu rfl rfl rfl rfl rfl ?_
  refine ef rfl rfl (eCall1 rfl rfl rfl (ref_CanonE _ _ _ _ _ _ _ _ a hna (by omega)) ⟨rfl, rfl, trivial⟩ ?_) 
  rintro _ _ ⟨B1, c1, rfl, rfl⟩
  refine pu rfl rfl rfl rfl rfl ?_
  have hrec := rec_rev (p := p) (m := m) (mod := mod) a
  generalize il (pol a : Po (El p m mod)) = l at *
  refine tr_seq ?_
  refine tr_region fun _ _ _ => ?_
  refine pu rfl rfl rfl rfl rfl ?_
  refine st rfl rfl rfl rfl (rLen rfl rfl) ?_
  refine ef rfl rfl (eMakeI rfl rfl rfl rfl rfl (by omega) (by omega) (by omega) (fun A2 => ?_)) 
  refine pu rfl rfl rfl rfl rfl ?_
  simp only [Int.toNat_natCast]
  refine tr_seq ?_
  refine tr_seq ?_
  refine tr_region fun _ _ _ => ?_
  refine pu rfl rfl rfl rfl rfl ?_
  refine tr_block ?_
  refine tr_loop2 (fun (k : Int) (o : List Int) => [(5, .slice A2 l.length l.length), (6, .int .i64 k), (1, .slice B1 l.length c1), (2, .pointer (some p0)), (4, .slice none 0 0)]) (fun (k : Int) (o : List Int) => [ow A2 3 l.length (ints o), ow B1 3 c1 (ints l), blk p0 24 [.int .i64 p, .int .i64 m, .slice A mod.length c], ro A (ints mod), ro Xa (ints a)]) (fun (k : Int) (o : List Int) => (0 ≤ k ∧ k ≤ l.length) ∧ o.length = l.length ∧ ∀ i : Nat, (i : Int) < k → o.getD (l.length - 1 - i) 0 = l.getD i 0) (fun (k : Int) (o : List Int) => (l.length - k).toNat) (0) (List.replicate l.length 0) ⟨rfl, rfl, rfl, rfl, rfl, trivial⟩ (by first | exact cs _ _ | exact CSub.refl _) (⟨⟨by omega, by omega⟩, by simp, fun j hj => by omega⟩) (fun k o hI => ?_)
  obtain ⟨⟨hk0, hk1⟩, hol, ho⟩ := hI
  refine tr_seq ?_
  refine tr_seq ?_
  refine tr_region fun _ _ _ => ?_
  iterate 2 refine pu rfl rfl rfl rfl rfl ?_
  refine st rfl rfl rfl rfl (rLen rfl rfl) ?_
  refine pu rfl rfl rfl rfl rfl ?_
  refine tr_cond_bool rfl (fun h4 => ?_) (fun h4 => ?_)
  · try simp only [zb1, zb2, zb3, zb4, zb5, zb6, zb7, zb8, zb9, zb10] at h4
    refine tr_skip ?_
    refine tr_seq ?_
    refine tr_block ?_
    refine tr_region fun _ _ _ => ?_
    iterate 2 refine pu rfl rfl rfl rfl rfl ?_
    refine st rfl rfl rfl rfl (rLen rfl rfl) ?_
    refine st rfl rfl rfl rfl (rSub rfl rfl rfl (by omega) (by omega)) ?_
    refine pu rfl rfl rfl rfl rfl ?_
    refine st rfl rfl rfl rfl (rSub rfl rfl rfl (by omega) (by omega)) ?_
    iterate 2 refine pu rfl rfl rfl rfl rfl ?_
    refine st rfl rfl rfl rfl (rIdxI rfl rfl rfl (by omega) (by omega) (by omega)) ?_
    refine st rfl rfl rfl rfl (rLdI rfl rfl (by omega)) ?_
    refine st rfl rfl rfl rfl (rIdxI rfl rfl rfl (by omega) (by omega) (by omega)) ?_
    refine ef rfl rfl (eStI rfl rfl rfl rfl (by omega) ?_) 
    rw [show ((l.length : Int) - 1 - k).toNat = l.length - 1 - k.toNat by omega]
    refine tr_region fun _ _ _ => ?_
    refine pu rfl rfl rfl rfl rfl ?_
    refine st rfl rfl rfl rfl (rAdd rfl rfl rfl (by omega) (by omega)) ?_
    refine pu rfl rfl rfl rfl rfl ?_
    refine ⟨k + 1, o.set (l.length - 1 - k.toNat) (l.getD k.toNat 0), ⟨rfl, rfl, rfl, rfl, rfl, trivial⟩, by first | exact cs _ _ | exact CSub.refl _, ?_⟩
    refine ⟨⟨⟨by omega, by omega⟩, by simpa using hol, fun i hi => ?_⟩, by omega⟩
    rw [getD_set]
    by_cases he : i = k.toNat
    · rw [if_pos ⟨by omega, by omega⟩, he]
    · rw [if_neg (by omega)]; exact ho i (by omega)
  · try simp only [zb1, zb2, zb3, zb4, zb5, zb6, zb7, zb8, zb9, zb10] at h4
    refine tr_exit ?_
    refine tr_seq ?_
    have hfin : o = l.reverse := rev_done hol fun i hi => by
      have := ho (l.length - 1 - i) (by omega)
      rwa [show l.length - 1 - (l.length - 1 - i) = i by omega] at this
    rw [hfin]
    refine tr_region fun _ _ _ => ?_
    refine st rfl rfl rfl rfl (rLdS rfl rfl rfl) ?_
    refine pu rfl rfl rfl rfl rfl ?_
    refine ef rfl rfl (eCall1 rfl rfl rfl (ref_PMonic _ _ _ _ _ A2 _ _ l.reverse (by rw [List.length_reverse]) (by rw [List.length_reverse]; omega)) ⟨rfl, rfl, trivial⟩ ?_) 
    rintro _ _ ⟨Br, cr, rfl, rfl⟩
    refine pu rfl rfl rfl rfl rfl ?_
    rw [← hrec]
    exact tr_ret ⟨trivial, _, _, rfl, ⟨_, rfl, Br, cr, rfl, rfl⟩, cs _ _, trivial, trivial⟩

end Go.Proofs.YtjmojhflnjbgaaaGreat

set_option linter.unusedSimpArgs false
set_option linter.unusedVariables false
set_option maxRecDepth 100000
namespace Go.Proofs.YtjmojhflnjbgaaaGreat
open Go.RowKit

/-- The list of leading places, while it is filled. -/
def leadS (w : Nat) (qs : List Nat) : Nat → List Int
  | 0 => List.replicate w (-1)
  | k + 1 => (leadS w qs k).set (qs.getD k 0) (k : Int)
theorem leadS_length (w : Nat) (qs : List Nat) : ∀ k, (leadS w qs k).length = w
  | 0 => List.length_replicate
  | k + 1 => by rw [leadS, List.length_set, leadS_length w qs k]
theorem take_snocN {qs : List Nat} {k : Nat} (h : k < qs.length) : qs.take (k + 1) = qs.take k ++ [qs.getD k 0] := by
  rw [List.take_add_one, List.getElem?_eq_getElem h, List.getD_eq_getElem?_getD, List.getElem?_eq_getElem h]; rfl
theorem leadS_get {w : Nat} {qs : List Nat} {j : Nat} (hj : j < w) : ∀ k, k ≤ qs.length → ((leadS w qs k).getD j 0 ≥ 0 ↔ j ∈ qs.take k)
  | 0, _ => by
    rw [leadS, List.getD_eq_getElem?_getD, List.getElem?_replicate, if_pos hj, List.take_zero]
    constructor
    · intro h; exact absurd h (by decide)
    · intro h; simp at h
  | k + 1, hk => by
    have ih := leadS_get (w := w) (qs := qs) hj k (by omega)
    rw [leadS, getD_set, take_snocN (by omega), List.mem_append, List.mem_singleton]
    by_cases he : qs.getD k 0 = j
    · rw [if_pos ⟨he, by rw [leadS_length]; exact hj⟩]
      exact ⟨fun _ => .inr he.symm, fun _ => by omega⟩
    · rw [if_neg (fun h => he h.1), ih]
      exact ⟨.inl, fun h => h.resolve_right (fun e => he e.symm)⟩
theorem freeN_succ (j : Nat) (qs : List Nat) : freeN (j + 1) qs = freeN j qs ++ if j ∈ qs then [] else [j] := by
  unfold freeN
  rw [List.range_succ, List.filter_append]
  congr 1
  by_cases h : j ∈ qs <;> simp [h]
section
variable {p m : Int} {mod : List Int} [hF : IsF p m mod]
/-- The word of a free place, while it is filled. -/
noncomputable def nuS (p m : Int) (mod : List Int) [hF : IsF p m mod] (r3 : List RowM) (qs : List Nat) (w c : Nat) : Nat → List Int
  | 0 => (List.replicate w 0).set c 1
  | k + 1 => (nuS p m mod r3 qs w c k).set (qs.getD k 0) (-(el ((r3.getD k rowD).xs.getD c 0)) : El p m mod).1
theorem nuS_length (r3 : List RowM) (qs : List Nat) (w c : Nat) : ∀ k, (nuS p m mod r3 qs w c k).length = w
  | 0 => by rw [nuS, List.length_set, List.length_replicate]
  | k + 1 => by rw [nuS, List.length_set, nuS_length r3 qs w c k]
theorem nuS_in (r3 : List RowM) (qs : List Nat) (w c : Nat) : ∀ k, AllIn (pw p m) (nuS p m mod r3 qs w c k)
  | 0 => (allIn_rep (by have := hF.q2; omega) _).set (by have := hF.q2; omega) _
  | k + 1 => (nuS_in r3 qs w c k).set (El.bd _) _
theorem nuS_get {r3 : List RowM} {qs : List Nat} {w c : Nat} (hr : Vc.Rr w (vsR r3 : List (Vc (El p m mod))) qs) (hc : c ∉ qs) {j : Nat} (hj : j < w) : ∀ k, k ≤ qs.length → (nuS p m mod r3 qs w c k).getD j 0 = if j = c then 1 else if j ∈ qs.take k then (-(el ((r3.getD (qs.idxOf j) rowD).xs.getD c 0)) : El p m mod).1 else 0
  | 0, _ => by
    rw [nuS, getD_set, List.take_zero]
    by_cases h : j = c
    · rw [if_pos ⟨h.symm, by rw [List.length_replicate]; exact hj⟩, if_pos h]
    · rw [if_neg (fun e => h e.1.symm), if_neg h, if_neg (by simp), rep_get]
  | k + 1, hk => by
    have hm : qs.getD k 0 ∈ qs := Vc.getD_eq_mem (by omega) 0
    rw [nuS, getD_set, nuS_get hr hc hj k (by omega), take_snocN (by omega)]
    by_cases he : qs.getD k 0 = j
    · have h1 : ¬ j = c := fun e => hc (by rw [← e, ← he]; exact hm)
      rw [if_pos ⟨he, by rw [nuS_length]; exact hj⟩, if_neg h1, if_pos (by rw [he]; simp), ← he, idx_piv hr.rise (by omega)]
    · rw [if_neg (fun h => he h.1)]
      have h2 : j ∈ qs.take k ++ [qs.getD k 0] ↔ j ∈ qs.take k := by
        rw [List.mem_append, List.mem_singleton]
        exact ⟨fun h => h.resolve_right (fun e => he e.symm), .inl⟩
      by_cases h3 : j ∈ qs.take k
      · rw [if_pos h3, if_pos (h2.2 h3)]
      · rw [if_neg h3, if_neg (fun h => h3 (h2.1 h))]
theorem piv_lt {R : List (Vc (El p m mod))} {qs : List Nat} {w : Nat} (hr : Vc.Rr w R qs) {j : Nat} (hj : j ∈ qs) : j < w := by
  obtain ⟨i, hi, hji⟩ := List.getElem_of_mem hj
  have h1 := hr.lt i hi
  have h2 : qs.getD i 0 = j := by rw [List.getD_eq_getElem?_getD, List.getElem?_eq_getElem hi]; exact hji
  omega
theorem nuS_vec {r3 : List RowM} {qs : List Nat} {w c : Nat} (hr : Vc.Rr w (vsR r3 : List (Vc (El p m mod))) qs) (hc : c ∉ qs) (hcw : c < w) : (rw' (nuS p m mod r3 qs w c qs.length) : Vc (El p m mod)) = nuV w (vsR r3) qs c := Vc.ext fun j => by
  rw [rw_at]
  by_cases hj : j < w
  · rw [nuS_get hr hc hj qs.length (Nat.le_refl _), List.take_length]
    unfold nuV
    by_cases h1 : j = c
    · rw [if_pos h1, if_pos h1, el_one]
    · rw [if_neg h1, if_neg h1]
      by_cases h2 : j ∈ qs
      · rw [if_pos h2, if_pos h2, el_of, vsR_at]
      · rw [if_neg h2, if_neg h2, el_zero]
  · rw [getD_out (by rw [nuS_length]; omega), el_zero, nuV_free (fun h => hj (piv_lt hr h)), if_neg (by omega)]
theorem nuS_gd {os r3 : List RowM} {qs js : List Nat} {w : Nat} (h : xss os = js.map fun c => nuS p m mod r3 qs w c qs.length) : Gd (pw p m) w os := fun r hr => by
  have h1 : r.xs ∈ xss os := xss_mem hr
  rw [h] at h1
  obtain ⟨c, _, hc⟩ := List.mem_map.1 h1
  rw [← hc]
  exact ⟨nuS_length _ _ _ _ _, nuS_in _ _ _ _ _⟩
theorem free_le {os r3 : List RowM} {qs ls : List Nat} {w j : Nat} (h : xss os = (freeN j ls).map fun c => nuS p m mod r3 qs w c qs.length) (hj : j ≤ 1000) : os.length ≤ 1000 := by
  have h1 := congrArg List.length h
  rw [xss_length, List.length_map] at h1
  have h2 : (freeN j ls).length ≤ j := by unfold freeN; exact Nat.le_trans (List.length_filter_le _ _) (by simp)
  omega
theorem nuS_span {os rs r3 : List RowM} {qs : List Nat} {w : Nat} (hr : Vc.Rr w (vsR r3 : List (Vc (El p m mod))) qs) (h : xss os = (freeN w qs).map fun c => nuS p m mod r3 qs w c qs.length) (hs : ∀ u, Vc.SpL (vsR r3 : List (Vc (El p m mod))) u ↔ Vc.SpL (vsR rs) u) (u : Vc (El p m mod)) :
    Vc.SpL (vsR os : List (Vc (El p m mod))) u ↔ Pp w (vsR rs) u := by
  have hv : (vsR os : List (Vc (El p m mod))) = nulV w (vsR r3) qs := by
    rw [vsR_xss, h, List.map_map]
    refine List.map_congr_left fun c hc => ?_
    have := mem_free.1 hc
    exact nuS_vec hr this.2 this.1
  rw [hv, nul_span hr, Pp.span hs]
end

theorem ref_Null_ent : Enters Tryz.prog 89 := enters_of Tryz.func89 (by kernel_rfl) (by kernel_rfl)
theorem ref_Null (p m : Int) (A : Option Addr) (c : Nat) (mod : List Int) [hF : IsF p m mod] (w : Int) (hw0 : 0 ≤ w) (hw9 : w ≤ 1000) (Aa : Option Addr) (n ca : Nat) (rs : List RowM) (hn : n = rs.length) (hr9 : rs.length ≤ 1000000) (hgd0 : Gd (pw p m) w.toNat rs) :
    Pure Tryz.prog 89 #[.agg #[.int .i64 p, .int .i64 m, .slice A mod.length c], .slice Aa n ca, .int .i64 w] [ro A (ints mod), ro Aa (hdrs rs), rowsR rs] (two (fun v ca cb => ∃ B cg r4, v = .slice B r4.length cg ∧ ca = ow B 22 cg (hdrs r4) ∧ cb = rowsCh 3 r4 ∧ CdOf p m mod w.toNat r4 (Pp w.toNat (vsR rs : List (Vc (El p m mod)))))) := by
  have hq2 := hF.q2
  refine pure_of (args := [.agg #[.int .i64 p, .int .i64 m, .slice A mod.length c], .slice Aa n ca, .int .i64 w]) 94 Tryz.func89 rfl rfl rfl ref_Null_ent ⟨id, id, id, trivial⟩ (fun w0 => ?_)
  refine tr_seq ?_
  refine tr_region fun _ _ _ => ?_
  refine ef rfl rfl (eBox rfl rfl rfl rfl rfl (fun p0 => ?_)) 
  refine pu rfl rfl rfl rfl rfl ?_
  refine tr_seq ?_
  refine tr_region fun _ _ _ => ?_
  refine st rfl rfl rfl rfl (rLdS rfl rfl rfl) ?_
  iterate 2 refine pu rfl rfl rfl rfl rfl ?_
  refine ef rfl rfl (eCall3 rfl rfl rfl (ref_RCanon _ _ _ _ _ w hw0 (by omega) Aa n ca rs hn hr9 hgd0) ⟨rfl, rfl, rfl, trivial⟩ ?_) 
  rintro _ _ _ _ ⟨r3, B1, cb1, Bp, cp, ps, rfl, rfl, rfl, rfl, hR, hk⟩
  iterate 5 refine pu rfl rfl rfl rfl rfl ?_
  refine tr_seq ?_
  obtain ⟨qs, hps, hRr⟩ := hR.form
  have hpl : ps.length = qs.length := by rw [hps, List.length_map]
  have hpk : ∀ k, ps.getD k 0 = (qs.getD k 0 : Int) := fun k => by rw [hps]; exact ofNat_getD qs k
  have hpr : ps.length = r3.length := hR.len
  have hgd3 := hR.good
  refine tr_region fun _ _ _ => ?_
  refine pu rfl rfl rfl rfl rfl ?_
  refine ef rfl rfl (eMakeI rfl rfl rfl rfl rfl (by omega) (by omega) (by omega) (fun A2 => ?_)) 
  refine pu rfl rfl rfl rfl rfl ?_
  refine tr_seq ?_
  refine tr_seq ?_
  refine tr_region fun _ _ _ => ?_
  refine pu rfl rfl rfl rfl rfl ?_
  refine tr_block ?_
  refine tr_loop2 (fun (k : Int) (L : List Int) => [(9, .slice A2 w.toNat w.toNat), (10, .int .i64 k), (2, .int .i64 w), (3, .pointer (some p0)), (6, .slice none 0 0), (7, .slice B1 r3.length cb1), (8, .slice Bp ps.length cp)]) (fun (k : Int) (L : List Int) => [ow A2 3 w.toNat (ints L), ow B1 22 cb1 (hdrs r3), rowsCh 3 r3, ow Bp 3 cp (ints ps), blk p0 24 [.int .i64 p, .int .i64 m, .slice A mod.length c], ro A (ints mod), ro Aa (hdrs rs), rowsR rs]) (fun (k : Int) (L : List Int) => (0 ≤ k ∧ k ≤ w) ∧ L.length = w.toNat ∧ ∀ i : Nat, (i : Int) < k → L.getD i 0 = -1) (fun (k : Int) (L : List Int) => (w - k).toNat) (0) (List.replicate w.toNat 0) ⟨rfl, rfl, rfl, rfl, rfl, rfl, rfl, trivial⟩ (by first | exact cs _ _ | exact CSub.refl _) (⟨⟨by omega, by omega⟩, by simp, fun i hi => by omega⟩) (fun k L hI => ?_)
  obtain ⟨⟨hk0, hk1⟩, hLl, hL⟩ := hI
  refine tr_seq ?_
  refine tr_seq ?_
  refine tr_region fun _ _ _ => ?_
  iterate 3 refine pu rfl rfl rfl rfl rfl ?_
  refine tr_cond_bool rfl (fun h4 => ?_) (fun h4 => ?_)
  · try simp only [zb1, zb2, zb3, zb4, zb5, zb6, zb7, zb8, zb9, zb10] at h4
    refine tr_skip ?_
    refine tr_seq ?_
    refine tr_block ?_
    refine tr_region fun _ _ _ => ?_
    iterate 2 refine pu rfl rfl rfl rfl rfl ?_
    refine st rfl rfl rfl rfl (rIdxI rfl rfl rfl (by omega) (by omega) (by omega)) ?_
    refine ef rfl rfl (eStI rfl rfl rfl rfl (by omega) ?_) 
    refine tr_region fun _ _ _ => ?_
    refine pu rfl rfl rfl rfl rfl ?_
    refine st rfl rfl rfl rfl (rAdd rfl rfl rfl (by omega) (by omega)) ?_
    refine pu rfl rfl rfl rfl rfl ?_
    refine ⟨k + 1, L.set k.toNat (-1), ⟨rfl, rfl, rfl, rfl, rfl, rfl, rfl, trivial⟩, by first | exact cs _ _ | exact CSub.refl _, ?_⟩
    refine ⟨⟨⟨by omega, by omega⟩, by simpa using hLl, fun i hi => ?_⟩, by omega⟩
    rw [getD_set]
    by_cases he : k.toNat = i
    · rw [if_pos ⟨he, by omega⟩]
    · rw [if_neg (fun h => he h.1)]; exact hL i (by omega)
  · try simp only [zb1, zb2, zb3, zb4, zb5, zb6, zb7, zb8, zb9, zb10] at h4
    refine tr_exit ?_
    refine tr_seq ?_
    refine tr_seq ?_
    have hLr : L = leadS w.toNat qs 0 := by
      refine ext_getD (by rw [leadS_length]; exact hLl) fun j => ?_
      by_cases hj : j < w.toNat
      · rw [hL j (by omega), leadS, List.getD_eq_getElem?_getD, List.getElem?_replicate, if_pos hj]; rfl
      · rw [getD_out (by omega), getD_out (by rw [leadS_length]; omega)]
    subst hLr
    refine tr_region fun _ _ _ => ?_
    refine pu rfl rfl rfl rfl rfl ?_
    refine tr_block ?_
    refine tr_loop2 (fun (k : Int) (L : List Int) => [(9, .slice A2 w.toNat w.toNat), (11, .int .i64 k), (2, .int .i64 w), (3, .pointer (some p0)), (6, .slice none 0 0), (7, .slice B1 r3.length cb1), (8, .slice Bp ps.length cp)]) (fun (k : Int) (L : List Int) => [ow A2 3 w.toNat (ints L), ow B1 22 cb1 (hdrs r3), rowsCh 3 r3, ow Bp 3 cp (ints ps), blk p0 24 [.int .i64 p, .int .i64 m, .slice A mod.length c], ro A (ints mod), ro Aa (hdrs rs), rowsR rs]) (fun (k : Int) (L : List Int) => (0 ≤ k ∧ k ≤ ps.length) ∧ L.length = w.toNat ∧ L = leadS w.toNat qs k.toNat) (fun (k : Int) (L : List Int) => (ps.length - k).toNat) (0) (leadS w.toNat qs 0) ⟨rfl, rfl, rfl, rfl, rfl, rfl, rfl, trivial⟩ (by first | exact cs _ _ | exact CSub.refl _) (⟨⟨by omega, by omega⟩, leadS_length _ _ _, rfl⟩) (fun k L hI => ?_)
    obtain ⟨⟨hk0, hk1⟩, hLl, hL⟩ := hI
    refine tr_seq ?_
    refine tr_seq ?_
    refine tr_region fun _ _ _ => ?_
    iterate 2 refine pu rfl rfl rfl rfl rfl ?_
    refine st rfl rfl rfl rfl (rLen rfl rfl) ?_
    refine pu rfl rfl rfl rfl rfl ?_
    refine tr_cond_bool rfl (fun h8 => ?_) (fun h8 => ?_)
    · try simp only [zb1, zb2, zb3, zb4, zb5, zb6, zb7, zb8, zb9, zb10] at h8
      refine tr_skip ?_
      refine tr_seq ?_
      refine tr_block ?_
      have hpk1 := hpk k.toNat
      have hpk2 := hRr.lt k.toNat (by omega)
      refine tr_region fun _ _ _ => ?_
      iterate 3 refine pu rfl rfl rfl rfl rfl ?_
      refine st rfl rfl rfl rfl (rIdxI rfl rfl rfl (by omega) (by omega) (by omega)) ?_
      refine st rfl rfl rfl rfl (rLdI rfl rfl (by omega)) ?_
      refine pu rfl rfl rfl rfl rfl ?_
      refine st rfl rfl rfl rfl (rIdxI rfl rfl rfl (by omega) (by omega) (by omega)) ?_
      refine ef rfl rfl (eStI rfl rfl rfl rfl (by omega) ?_) 
      skip
      refine tr_region fun _ _ _ => ?_
      refine pu rfl rfl rfl rfl rfl ?_
      refine st rfl rfl rfl rfl (rAdd rfl rfl rfl (by omega) (by omega)) ?_
      refine pu rfl rfl rfl rfl rfl ?_
      refine ⟨k + 1, L.set (ps.getD k.toNat 0).toNat k, ⟨rfl, rfl, rfl, rfl, rfl, rfl, rfl, trivial⟩, by first | exact cs _ _ | exact CSub.refl _, ?_⟩
      refine ⟨⟨⟨by omega, by omega⟩, by simpa using hLl, ?_⟩, by omega⟩
      rw [show (k + 1).toNat = k.toNat + 1 by omega, leadS, hL, hpk k.toNat, Int.toNat_natCast, Int.toNat_of_nonneg hk0]
    · try simp only [zb1, zb2, zb3, zb4, zb5, zb6, zb7, zb8, zb9, zb10] at h8
      refine tr_exit ?_
      refine tr_seq ?_
      refine tr_region fun _ _ _ => ?_
      refine pu rfl rfl rfl rfl rfl ?_
      refine tr_seq ?_
      refine tr_seq ?_
      have hkq : k.toNat = qs.length := by omega
      rw [hkq] at hL
      subst hL
      have hLl := leadS_length w.toNat qs qs.length
      refine tr_region fun _ _ _ => ?_
      refine pu rfl rfl rfl rfl rfl ?_
      refine tr_block ?_
      refine tr_nilR 22 3 ?_
      refine tr_loop4 (fun (j : Int) (AQ : Option Addr) (cq : Nat) (os : List RowM) => [(12, .slice AQ os.length cq), (13, .int .i64 j), (9, .slice A2 w.toNat w.toNat), (2, .int .i64 w), (3, .pointer (some p0)), (6, .slice none 0 0), (7, .slice B1 r3.length cb1), (8, .slice Bp ps.length cp)]) (fun (j : Int) (AQ : Option Addr) (cq : Nat) (os : List RowM) => [ow AQ 22 cq (hdrs os), rowsCh 3 os, ow A2 3 w.toNat (ints (leadS w.toNat qs qs.length)), ow B1 22 cb1 (hdrs r3), rowsCh 3 r3, ow Bp 3 cp (ints ps), blk p0 24 [.int .i64 p, .int .i64 m, .slice A mod.length c], ro A (ints mod), ro Aa (hdrs rs), rowsR rs]) (fun (j : Int) (AQ : Option Addr) (cq : Nat) (os : List RowM) => (0 ≤ j ∧ j ≤ w) ∧ xss os = (freeN j.toNat qs).map fun c => nuS p m mod r3 qs w.toNat c qs.length) (fun (j : Int) (AQ : Option Addr) (cq : Nat) (os : List RowM) => (w - j).toNat) (0) (none) (0) ([]) ⟨rfl, rfl, rfl, rfl, rfl, rfl, rfl, rfl, trivial⟩ (by first | exact cs _ _ | exact CSub.refl _) (⟨⟨by omega, by omega⟩, rfl⟩) (fun j AQ cq os hI => ?_)
      obtain ⟨⟨hj0, hj1⟩, hos⟩ := hI
      refine tr_seq ?_
      refine tr_seq ?_
      refine tr_region fun _ _ _ => ?_
      iterate 3 refine pu rfl rfl rfl rfl rfl ?_
      refine tr_cond_bool rfl (fun h13 => ?_) (fun h13 => ?_)
      · try simp only [zb1, zb2, zb3, zb4, zb5, zb6, zb7, zb8, zb9, zb10] at h13
        refine tr_skip ?_
        refine tr_seq ?_
        refine tr_block ?_
        refine tr_seq ?_
        refine tr_seq ?_
        have hlg := leadS_get (w := w.toNat) (qs := qs) (j := j.toNat) (by omega) qs.length (Nat.le_refl _)
        rw [List.take_length] at hlg
        refine tr_region fun _ _ _ => ?_
        iterate 2 refine pu rfl rfl rfl rfl rfl ?_
        refine st rfl rfl rfl rfl (rIdxI rfl rfl rfl (by omega) (by omega) (by omega)) ?_
        refine st rfl rfl rfl rfl (rLdI rfl rfl (by omega)) ?_
        refine pu rfl rfl rfl rfl rfl ?_
        refine tr_cond_bool rfl (fun h15 => ?_) (fun h15 => ?_)
        · try simp only [zb1, zb2, zb3, zb4, zb5, zb6, zb7, zb8, zb9, zb10] at h15
          refine tr_exit ?_
          refine tr_region fun _ _ _ => ?_
          refine pu rfl rfl rfl rfl rfl ?_
          refine st rfl rfl rfl rfl (rAdd rfl rfl rfl (by omega) (by omega)) ?_
          refine pu rfl rfl rfl rfl rfl ?_
          refine ⟨j + 1, AQ, cq, os, ⟨rfl, rfl, rfl, rfl, rfl, rfl, rfl, rfl, trivial⟩, by first | exact cs _ _ | exact CSub.refl _, ?_⟩
          refine ⟨⟨⟨by omega, by omega⟩, ?_⟩, by omega⟩
          rw [show (j + 1).toNat = j.toNat + 1 by omega, freeN_succ, if_pos (hlg.1 (by first | omega | assumption)), List.append_nil]; exact hos
        · try simp only [zb1, zb2, zb3, zb4, zb5, zb6, zb7, zb8, zb9, zb10] at h15
          refine tr_skip ?_
          refine tr_seq ?_
          refine tr_region fun _ _ _ => ?_
          refine pu rfl rfl rfl rfl rfl ?_
          refine ef rfl rfl (eMakeI rfl rfl rfl rfl rfl (by omega) (by omega) (by omega) (fun A16 => ?_)) 
          refine pu rfl rfl rfl rfl rfl ?_
          refine tr_seq ?_
          have hrl : (List.replicate w.toNat (0 : Int)).length = w.toNat := by simp
          refine tr_region fun _ _ _ => ?_
          iterate 2 refine pu rfl rfl rfl rfl rfl ?_
          refine st rfl rfl rfl rfl (rIdxI rfl rfl rfl (by omega) (by omega) (by omega)) ?_
          refine ef rfl rfl (eStI rfl rfl rfl rfl (by omega) ?_) 
          refine tr_seq ?_
          refine tr_seq ?_
          refine tr_region fun _ _ _ => ?_
          refine pu rfl rfl rfl rfl rfl ?_
          refine tr_block ?_
          refine tr_loop2 (fun (k : Int) (x : List Int) => [(14, .slice A16 w.toNat w.toNat), (15, .int .i64 k), (2, .int .i64 w), (3, .pointer (some p0)), (6, .slice none 0 0), (7, .slice B1 r3.length cb1), (8, .slice Bp ps.length cp), (9, .slice A2 w.toNat w.toNat), (12, .slice AQ os.length cq), (13, .int .i64 j), (46, .int .i64 j), (47, .int .i64 w), (51, .slice A2 w.toNat w.toNat), (52, .int .i64 j), (56, .int .i64 w), (59, .int .i64 j)]) (fun (k : Int) (x : List Int) => [ow A16 3 w.toNat (ints x), ow AQ 22 cq (hdrs os), rowsCh 3 os, ow A2 3 w.toNat (ints (leadS w.toNat qs qs.length)), ow B1 22 cb1 (hdrs r3), rowsCh 3 r3, ow Bp 3 cp (ints ps), blk p0 24 [.int .i64 p, .int .i64 m, .slice A mod.length c], ro A (ints mod), ro Aa (hdrs rs), rowsR rs]) (fun (k : Int) (x : List Int) => (0 ≤ k ∧ k ≤ ps.length) ∧ x.length = w.toNat ∧ x = nuS p m mod r3 qs w.toNat j.toNat k.toNat) (fun (k : Int) (x : List Int) => (ps.length - k).toNat) (0) ((List.replicate w.toNat 0).set j.toNat 1) ⟨rfl, rfl, rfl, rfl, rfl, rfl, rfl, rfl, rfl, rfl, rfl, rfl, rfl, rfl, rfl, rfl, trivial⟩ (by first | exact cs _ _ | exact CSub.refl _) (⟨⟨by omega, by omega⟩, by simp, rfl⟩) (fun k x hI => ?_)
          obtain ⟨⟨hk0, hk1⟩, hxl0, hx⟩ := hI
          refine tr_seq ?_
          refine tr_seq ?_
          refine tr_region fun _ _ _ => ?_
          iterate 2 refine pu rfl rfl rfl rfl rfl ?_
          refine st rfl rfl rfl rfl (rLen rfl rfl) ?_
          refine pu rfl rfl rfl rfl rfl ?_
          refine tr_cond_bool rfl (fun h19 => ?_) (fun h19 => ?_)
          · try simp only [zb1, zb2, zb3, zb4, zb5, zb6, zb7, zb8, zb9, zb10] at h19
            refine tr_skip ?_
            refine tr_seq ?_
            refine tr_block ?_
            have hpk1 := hpk k.toNat
            have hpk2 := hRr.lt k.toNat (by omega)
            haveI : InB k.toNat r3.length := ⟨by omega⟩
            have hgk := hgd3.get (show k.toNat < r3.length by omega)
            have hgk1 := hgk.1
            refine tr_draw [0, 1, 2, 3, 4, 5, 6, 7, 8, 9, 10, 11, 12, 13, 14] [15] mixed (by kernel_rfl) fun _ _ _ => ?_
            iterate 3 refine pu rfl rfl rfl rfl rfl ?_
            refine st rfl rfl rfl rfl (rIdxI rfl rfl rfl (by omega) (by omega) (by omega)) ?_
            refine st rfl rfl rfl rfl (rLdI rfl rfl (by omega)) ?_
            refine st rfl rfl rfl rfl (rLdS rfl rfl rfl) ?_
            iterate 2 refine pu rfl rfl rfl rfl rfl ?_
            refine st rfl rfl rfl rfl (rIdxR rfl rfl rfl (by omega) (by omega) (by omega)) ?_
            refine st rfl rfl rfl rfl (rLdR rfl rfl (by omega)) ?_
            refine pu rfl rfl rfl rfl rfl ?_
            refine st rfl rfl rfl rfl (rIdxI rfl rfl rfl (by omega) (by omega) (by omega)) ?_
            refine st rfl rfl rfl rfl (rLdI rfl rfl (by omega)) ?_
            refine ef rfl rfl (eCallV rfl rfl rfl (ref_NegE _ _ _ _ _ _) ⟨rfl, rfl, trivial⟩ ?_) 
            refine st rfl rfl rfl rfl (rIdxI rfl rfl rfl (by omega) (by omega) (by omega)) ?_
            refine ef rfl rfl (eStI rfl rfl rfl rfl (by omega) ?_) 
            refine tr_region fun _ _ _ => ?_
            refine pu rfl rfl rfl rfl rfl ?_
            refine st rfl rfl rfl rfl (rAdd rfl rfl rfl (by omega) (by omega)) ?_
            refine pu rfl rfl rfl rfl rfl ?_
            refine ⟨k + 1, x.set (ps.getD k.toNat 0).toNat (-(el ((r3.getD k.toNat rowD).xs.getD j.toNat 0)) : El p m mod).1, ⟨rfl, rfl, rfl, rfl, rfl, rfl, rfl, rfl, rfl, rfl, rfl, rfl, rfl, rfl, rfl, rfl, trivial⟩, by first | exact cs _ _ | exact CSub.refl _, ?_⟩
            refine ⟨⟨⟨by omega, by omega⟩, by simpa using hxl0, ?_⟩, by omega⟩
            rw [show (k + 1).toNat = k.toNat + 1 by omega, nuS, hx, hpk k.toNat, Int.toNat_natCast]
          · try simp only [zb1, zb2, zb3, zb4, zb5, zb6, zb7, zb8, zb9, zb10] at h19
            refine tr_exit ?_
            have hol := free_le hos (by omega)
            have hkq : k.toNat = qs.length := by omega
            rw [hkq] at hx
            have hxl := nuS_length (p := p) (m := m) (mod := mod) r3 qs w.toNat j.toNat qs.length
            rw [← hx] at hxl
            refine tr_region fun _ _ _ => ?_
            iterate 2 refine pu rfl rfl rfl rfl rfl ?_
            refine ef rfl rfl (eLit1 rfl rfl rfl rfl rfl (fun A22 => ?_)) 
            refine ef rfl rfl (eAppRn x hxl.symm rfl rfl rfl rfl rfl (by first | rfl | simp) (by omega) (fun A22a c22a => ?_)) 
            refine pu rfl rfl rfl rfl rfl ?_
            refine tr_region fun _ _ _ => ?_
            refine pu rfl rfl rfl rfl rfl ?_
            refine st rfl rfl rfl rfl (rAdd rfl rfl rfl (by omega) (by omega)) ?_
            refine pu rfl rfl rfl rfl rfl ?_
            refine ⟨j + 1, A22a, c22a, os ++ [⟨A16, w.toNat, x⟩], ⟨rfl, rfl, rfl, rfl, rfl, rfl, rfl, rfl, trivial⟩, by exact rows_app, ?_⟩
            refine ⟨⟨⟨by omega, by omega⟩, ?_⟩, by omega⟩
            rw [show (j + 1).toNat = j.toNat + 1 by omega, freeN_succ, if_neg (fun h => by have := hlg.2 h; omega), xss_snoc, hos, List.map_append, hx]
            rfl
      · try simp only [zb1, zb2, zb3, zb4, zb5, zb6, zb7, zb8, zb9, zb10] at h13
        refine tr_exit ?_
        refine tr_seq ?_
        have hjw : j.toNat = w.toNat := by omega
        rw [hjw] at hos
        have hgo := nuS_gd hos
        have hol := free_le hos (by omega)
        refine tr_region fun _ _ _ => ?_
        refine st rfl rfl rfl rfl (rLdS rfl rfl rfl) ?_
        iterate 2 refine pu rfl rfl rfl rfl rfl ?_
        refine ef rfl rfl (eCall3 rfl rfl rfl (ref_RCanon _ _ _ _ _ w hw0 (by omega) AQ _ cq os rfl (by omega) hgo) ⟨rfl, rfl, rfl, trivial⟩ ?_) 
        rintro _ _ _ _ ⟨r4, B4, cg4, Bp4, cp4, ps4, rfl, rfl, rfl, rfl, hR4, hk4⟩
        iterate 4 refine pu rfl rfl rfl rfl rfl ?_
        refine tr_seq ?_
        refine tr_region fun _ _ _ => ?_
        iterate 2 refine pu rfl rfl rfl rfl rfl ?_
        exact tr_ret ⟨trivial, _, _, rfl, ⟨_, _, rfl, B4, cg4, r4, rfl, rfl, rfl, hR4.cd fun u => nuS_span hRr hos hR.span u⟩, cs _ _, trivial, trivial, trivial⟩

theorem ref_Parity_ent : Enters Tryz.prog 90 := enters_of Tryz.func90 (by kernel_rfl) (by kernel_rfl)
theorem ref_Parity (p m : Int) (A : Option Addr) (c : Nat) (mod : List Int) [hF : IsF p m mod] (w : Int) (Aa : Option Addr) (n ca : Nat) (rs : List RowM) (hn : n = rs.length) (h9 : rs.length ≤ 256) (hc : CodeOk p m mod w rs) :
    Pure Tryz.prog 90 #[.agg #[.int .i64 p, .int .i64 m, .slice A mod.length c, .int .i64 w, .slice Aa n ca]] [ro A (ints mod), ro Aa (hdrs rs), rowsR rs] (two (fun v ca cb => ∃ B cg r4, v = .slice B r4.length cg ∧ ca = ow B 22 cg (hdrs r4) ∧ cb = rowsCh 3 r4 ∧ CdOf p m mod w.toNat r4 (Pp w.toNat (vsR rs : List (Vc (El p m mod)))))) := by
  have hl9 := hF.short
  have hn1 := hc.n1
  have hn64 := hc.n64
  have hlen := hc.len
  have hgd := hc.good
  have h8 := hgd.h8 (N := 17592186044415) (by omega)
  have hck := hc.zero
  refine pure_of (args := [.agg #[.int .i64 p, .int .i64 m, .slice A mod.length c, .int .i64 w, .slice Aa n ca]]) 10 Tryz.func90 rfl rfl rfl ref_Parity_ent ⟨id, id, id, trivial⟩ (fun w0 => ?_)
  refine tr_seq ?_
  refine tr_region fun _ _ _ => ?_
  refine ef rfl rfl (eBox rfl rfl rfl rfl rfl (fun p0 => ?_)) 
  refine pu rfl rfl rfl rfl rfl ?_
  refine tr_seq ?_
  refine tr_region fun _ _ _ => ?_
  refine st rfl rfl rfl rfl (rFld rfl rfl) ?_
  refine st rfl rfl rfl rfl (rLdSF rfl rfl) ?_
  refine st rfl rfl rfl rfl (rFld rfl rfl) ?_
  refine st rfl rfl rfl rfl (rLdF rfl rfl rfl) ?_
  refine st rfl rfl rfl rfl (rFld rfl rfl) ?_
  refine st rfl rfl rfl rfl (rLdF rfl rfl rfl) ?_
  refine ef rfl rfl (eCall2 rfl rfl rfl (ref_Null _ _ _ _ _ w (by omega) (by omega) Aa n ca rs hn (by omega) hgd) ⟨rfl, rfl, rfl, trivial⟩ ?_) 
  rintro _ _ _ ⟨B4, cg4, r4, rfl, rfl, rfl, hC4⟩
  refine pu rfl rfl rfl rfl rfl ?_
  exact tr_ret ⟨trivial, _, _, rfl, ⟨_, _, rfl, B4, cg4, r4, rfl, rfl, rfl, hC4⟩, cs _ _, trivial, trivial, trivial⟩

theorem ref_CDual_ent : Enters Tryz.prog 38 := enters_of Tryz.func38 (by kernel_rfl) (by kernel_rfl)
theorem ref_CDual (p m : Int) (A : Option Addr) (c : Nat) (mod : List Int) [hF : IsF p m mod] (w : Int) (Aa : Option Addr) (n ca : Nat) (rs : List RowM) (hn : n = rs.length) (h9 : rs.length ≤ 256) (hc : CodeOk p m mod w rs) :
    Pure Tryz.prog 38 #[.agg #[.int .i64 p, .int .i64 m, .slice A mod.length c, .int .i64 w, .slice Aa n ca]] [ro A (ints mod), ro Aa (hdrs rs), rowsR rs] (three (fun v ca cb cc => ∃ Bm cm B cg r3, v = .tuple #[.agg #[.int .i64 p, .int .i64 m, .slice Bm mod.length cm, .int .i64 w, .slice B r3.length cg], .int .i64 0] ∧ ca = ow Bm 3 cm (ints mod) ∧ cb = ow B 22 cg (hdrs r3) ∧ cc = rowsCh 3 r3 ∧ CdOf p m mod w.toNat r3 (Pp w.toNat (vsR rs : List (Vc (El p m mod)))))) := by
  have hl9 := hF.short
  have hn1 := hc.n1
  have hn64 := hc.n64
  have hlen := hc.len
  have hgd := hc.good
  have h8 := hgd.h8 (N := 17592186044415) (by omega)
  have hck := hc.zero
  refine pure_ofC (args := [.agg #[.int .i64 p, .int .i64 m, .slice A mod.length c, .int .i64 w, .slice Aa n ca]]) 18 Tryz.func38 rfl rfl rfl ref_CDual_ent ⟨id, id, id, trivial⟩ (fun w0 => ?_)
  refine tr_seq ?_
  refine tr_region fun _ _ _ => ?_
  refine ef rfl rfl (eBox rfl rfl rfl rfl rfl (fun p0 => ?_)) 
  refine ef rfl rfl (eAlloc rfl rfl rfl (fun p0a => ?_)) 
  refine pu rfl rfl rfl rfl rfl ?_
  refine tr_seq ?_
  refine tr_region fun _ _ _ => ?_
  refine st rfl rfl rfl rfl (rLdS rfl rfl rfl) ?_
  refine ef rfl rfl (eCallV rfl rfl rfl (ref_CCheck _ _ _ _ _ (by omega) w Aa n ca rs hn (by omega) h8) ⟨rfl, trivial⟩ ?_) 
  refine pu rfl rfl rfl rfl rfl ?_
  refine tr_seq ?_
  refine tr_seq ?_
  refine tr_region fun _ _ _ => ?_
  iterate 2 refine pu rfl rfl rfl rfl rfl ?_
  refine tr_cond_bool rfl (fun h2 => ?_) (fun h2 => ?_)
  · try simp only [zb1, zb2, zb3, zb4, zb5, zb6, zb7, zb8, zb9, zb10] at h2
    omega --done
  · try simp only [zb1, zb2, zb3, zb4, zb5, zb6, zb7, zb8, zb9, zb10] at h2
    refine tr_skip ?_
    refine tr_seq ?_
    refine tr_draw [0, 1, 2, 4, 5, 3, 6] [7, 8] mixed (by kernel_rfl) fun _ _ _ => ?_
    refine st rfl rfl rfl rfl (rFld rfl rfl) ?_
    refine st rfl rfl rfl rfl (rLdSF rfl rfl) ?_
    refine st rfl rfl rfl rfl (rLdS rfl rfl rfl) ?_
    refine st rfl rfl rfl rfl (rFld rfl rfl) ?_
    refine st rfl rfl rfl rfl (rLdF rfl rfl rfl) ?_
    refine ef rfl rfl (eCall2 rfl rfl rfl (ref_Parity _ _ _ _ _ w Aa n ca rs hn h9 hc) ⟨rfl, trivial⟩ ?_) 
    rintro _ _ _ ⟨B4, cg4, r4, rfl, rfl, rfl, hC4⟩
    refine ef rfl rfl (eCall3 rfl rfl rfl (ref_Make _ _ _ _ _ w B4 _ cg4 r4 rfl (by have := hC4.le; omega) hn1 hn64 hC4.good) ⟨rfl, rfl, rfl, trivial⟩ ?_) 
    rintro _ _ _ _ ⟨Bm, cm, B, cg, r3, rfl, rfl, rfl, rfl, hC⟩
    refine ef rfl rfl (eStS rfl rfl rfl rfl rfl rfl ?_) 
    refine pu rfl rfl rfl rfl rfl ?_
    exact tr_ret ⟨trivial, _, _, (.cell rfl (cellS rfl) (.tmp rfl .nil)), ⟨_, _, _, rfl, Bm, cm, B, cg, r3, rfl, rfl, rfl, rfl, hC.iff hC4.span⟩, cs _ _, trivial, trivial, trivial, trivial⟩

end Go.Proofs.YtjmojhflnjbgaaaGreat

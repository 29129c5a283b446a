/-
  CYCLICDIVIDES, PART 7 OF 10. One sentence: the texts behind the law CyclicDivides, put together.
  Conditions: each theorem's own, written out in it.
-/
import Derived.Test.YtdkahdehodopoaaGreatShelf
import Derived.Test.YtdkahdehodopoaaGreatK6
set_option linter.unusedSimpArgs false
set_option linter.unusedVariables false
set_option linter.unusedSectionVars false
set_option maxRecDepth 100000
set_option maxHeartbeats 1000000
namespace Go.Proofs.YtdkahdehodopoaaGreat
open Go.RowKit
section
variable {p m : Int} {mod : List Int} [hF : IsF p m mod]
open Po Vc
structure RowS (f : Po (El p m mod)) (n j : Nat) (xs : List Int) : Prop where
 len : xs.length = 2 * n
 good : AllIn (pw p m) xs
 lo : ∀ t, t < n → (el (xs.getD t 0) : El p m mod) = cf (xk f (j * (pw p m).toNat)) t - (if t = j then 1 else 0)
 hi : ∀ t, t < n → (el (xs.getD (n + t) 0) : El p m mod) = if t = j then 1 else 0
theorem cf_mn1 (j t : Nat) : cf (mn 1 j : Po (El p m mod)) t = if t = j then 1 else 0 := cf_mn 1 j t
theorem RowS.gr {f : Po (El p m mod)} (hf : f ≠ 0) {n j : Nat} (hl : Po.len f = n + 1) (hj : j < n) {xs : List Int} (h : RowS f n j xs) : Gr f n (rw' xs) := by
 have hx := rem_len (mn 1 (j * (pw p m).toNat) : Po (El p m mod)) hf
 have hx2 : Po.len (xk f (j * (pw p m).toNat)) ≤ n := by unfold xk; omega
 refine gr_row (i := j) hf (fun t ht => ?_) (Po.ext fun t => ?_) (Po.ext fun t => ?_)
 ·rw [rw_at, getD_out (by rw [h.len]; omega), el_zero]
 ·rw [cf_lpV, cf_sub, cf_mn1]
  by_cases ht : t < n
  ·rw [if_pos ht, rw_at, h.lo t ht]
  ·rw [if_neg ht, cf_ge (by omega), if_neg (by omega), Rg.sub_self]
 ·rw [cf_rpV, cf_mn1]
  by_cases ht : t < n
  ·rw [if_pos ht, rw_at, h.hi t ht]
  ·rw [if_neg ht, if_neg (by omega)]
theorem rowS_sta {f : Po (El p m mod)} (hf : f ≠ 0) {n : Nat} (hl : len f = n + 1) {rs : List RowM} (hn : rs.length = n) (h : ∀ j, j < n → RowS f n j (rs.getD j rowD).xs) : Sta f n (vsR rs) ∧ Gd (pw p m) (2 * n) rs := by
 refine ⟨⟨by rw [vsR_length]; exact hn, fun v hv => ?_, fun i j hi hj => ?_⟩, fun r hr => ?_⟩
 ·obtain ⟨r, hr, rfl⟩ := List.mem_map.1 hv
  obtain ⟨i, hi, rfl⟩ := List.getElem_of_mem hr
  have := h i (by omega)
  rw [List.getD_eq_getElem?_getD, List.getElem?_eq_getElem hi] at this
  exact this.gr hf hl (by omega)
 ·rw [vsR_get, rw_at, (h i hi).hi j hj]
  by_cases e : i = j
  ·rw [if_pos e, if_pos e.symm]
  ·rw [if_neg e, if_neg (fun h => e h.symm)]
 ·obtain ⟨i, hi, rfl⟩ := List.getElem_of_mem hr
  have := h i (by omega)
  rw [List.getD_eq_getElem?_getD, List.getElem?_eq_getElem hi] at this
  exact ⟨this.len, this.good⟩
theorem rowS_mk {f : Po (El p m mod)} (hf : f ≠ 0) {n j : Nat} (hl : len f = n + 1) (hj : j < n) {L : List Int} (h1 : L.length = 2 * n) (h2 : ∀ t, L.getD t 0 = (il (xk f (j * (pw p m).toNat))).getD t 0) {u : Int} (hu : u = (cf (xk f (j * (pw p m).toNat)) j - 1 : El p m mod).1) : RowS f n j ((L.set j u).set (n + j) 1) := by
 have hq := hF.q2
 have hx := rem_len (mn 1 (j * (pw p m).toNat) : Po (El p m mod)) hf
 have hx2 : Po.len (xk f (j * (pw p m).toNat)) ≤ n := by unfold xk; omega
 have hg : AllIn (pw p m) L := fun x hx => by
  obtain ⟨t, ht, rfl⟩ := List.getElem_of_mem hx
  have := h2 t
  rw [List.getD_eq_getElem?_getD, List.getElem?_eq_getElem ht, il_getD] at this
  have e : L[t] = (cf (xk f (j * (pw p m).toNat)) t : El p m mod).1 := this
  rw [e]
  exact El.bd _
 refine ⟨by simpa using h1, (hg.set (by rw [hu]; exact El.bd _) _).set (by omega) _, fun t ht => ?_, fun t ht => ?_⟩
 ·rw [getD_set, if_neg (by omega), getD_set]
  by_cases e : j = t
  ·rw [if_pos ⟨e, by omega⟩, hu, el_of, if_pos e.symm, e]
  ·rw [if_neg (fun x => e x.1), h2, il_getD, el_of, if_neg (fun x => e x.symm), Rg.sub_zero]
 ·rw [getD_set]
  by_cases e : j = t
  ·rw [if_pos ⟨by omega, by simp; omega⟩, el_one, if_pos e.symm]
  ·rw [if_neg (by omega), getD_set, if_neg (by omega), h2, il_getD, el_of, cf_ge (by omega), if_neg (fun x => e x.symm)]
theorem copy_zeros (n : Nat) (ys : List Int) (h : ys.length ≤ n) : (List.take 0 (List.replicate n (0 : Int)) ++ ys.take (min ys.length n) ++ (List.replicate n (0 : Int)).drop (0 + min ys.length n)).length = n ∧ ∀ t, (List.take 0 (List.replicate n (0 : Int)) ++ ys.take (min ys.length n) ++ (List.replicate n (0 : Int)).drop (0 + min ys.length n)).getD t 0 = ys.getD t 0 := by
 rw [Nat.min_eq_left h, List.take_zero, List.nil_append, List.take_length, Nat.zero_add]
 refine ⟨by simp; omega, fun t => ?_⟩
 rw [List.getD_eq_getElem?_getD, List.getElem?_append]
 by_cases ht : t < ys.length
 ·rw [if_pos ht, List.getD_eq_getElem?_getD]
 ·rw [if_neg ht, List.getElem?_drop, List.getElem?_replicate, getD_out (by omega)]
  split <;> rfl
theorem row_part {c : Nat} {mm : El p m mod} {x r s : List Int} (hl : x.length = r.length) (hs : s.length = r.length) (hr : AllIn (pw p m) r) (h : ∀ t, t < r.length → x.getD t 0 = if c ≤ t then (el (r.getD t 0) - mm * el (s.getD t 0) : El p m mod).1 else r.getD t 0) (hz : ∀ t, t < c → (el (s.getD t 0) : El p m mod) = 0) : x = addR (-mm) r s := ext_getD (by simpa using hl) fun t => by
 have hq := hF.q2
 by_cases ht : t < r.length
 ·rw [addR_get _ _ _ ht, h t ht]
  by_cases hc : c ≤ t
  ·rw [if_pos hc]; congr 1; grind
  ·rw [if_neg hc, hz t (by omega), Rg.mul_zero, Rg.add_zero]
   exact (el_in (hr.get (by omega) t)).symm
 ·rw [getD_out (by omega), getD_out (by simp; omega)]
theorem xss_drop_rp {n : Nat} {f : Po (El p m mod)} {rs : List RowM} (a : Nat) : ((vsR rs : List (Vc (El p m mod))).drop a).map (rpV n) = (rs.drop a).map fun r => rpV n (rw' r.xs) := by
 unfold vsR; rw [← List.map_drop, List.map_map]; rfl
theorem pol_drop {n : Nat} {xs : List Int} (h : xs.length = 2 * n) : (pol (xs.drop n) : Po (El p m mod)) = rpV n (rw' xs) := Po.ext fun j => by
 rw [cf_pol, cf_rpV, rw_at]
 by_cases hj : j < n
 ·rw [if_pos hj, List.getD_eq_getElem?_getD, List.getElem?_drop, ← List.getD_eq_getElem?_getD]
 ·rw [if_neg hj, getD_out (by simp; omega), el_zero]
end
theorem poly_Mul2 (g : GfM) {p m : Int} {mod : List Int} [hF : IsF p m mod] (hg : GOk g p m mod) (L : Option Addr) (A1 : Option Addr) (c1 : Nat) (l1 : List Int) (A2 : Option Addr) (c2 : Nat) (l2 : List Int) (h1 : l1.length ≤ 100000) (h2 : l2.length ≤ 100000) :
  Pure Tryz.prog 21 #[.pointer (some g.p), .slice L 2 2] [gfR g, ro L (hdrs [⟨A1, c1, l1⟩, ⟨A2, c2, l2⟩]), rowsR [⟨A1, c1, l1⟩, ⟨A2, c2, l2⟩]] (one (fun v ch => ∃ B cap, v = .slice B (il (pol l1 * pol l2 : Po (El p m mod))).length cap ∧ ch = ow B 3 cap (ints (il (pol l1 * pol l2 : Po (El p m mod)))))) := by
 have e : prP p m mod [⟨A1, c1, l1⟩, ⟨A2, c2, l2⟩] = pol l1 * pol l2 := by
  show 1 * pol l1 * pol l2 = _
  rw [Rg.one_mul]
 have b1 := Po.len_le (pol_sh (p := p) (m := m) (mod := mod) l1)
 have b2 := Po.len_le (pol_sh (p := p) (m := m) (mod := mod) l2)
 rw [← e]
 refine poly_Mul g hg L 2 2 [⟨A1, c1, l1⟩, ⟨A2, c2, l2⟩] rfl (by simp) (fun z hz => ?_) (fun z hz => ?_)
 ·match z, hz with
  | 0, _ => exact Nat.le_trans h1 (by omega)
  | 1, _ => exact Nat.le_trans h2 (by omega)
  | z + 2, hz => exact absurd hz (by simp)
 ·match z, hz with
  | 0, _ => show Po.len (1 : Po (El p m mod)) ≤ _; rw [Po.len_one]; omega
  | 1, _ =>
   show Po.len (1 * pol l1 : Po (El p m mod)) ≤ _
   rw [Rg.one_mul]; omega
  | 2, _ =>
   show Po.len (prP p m mod [⟨A1, c1, l1⟩, ⟨A2, c2, l2⟩]) ≤ _
   rw [e]
   have := len_mul_le (pol l1) (pol l2 : Po (El p m mod))
   omega
  | z + 3, hz => exact absurd hz (by simp)
theorem fac_fixed_ent : Enters Tryz.prog 77 := enters_of Tryz.func77 (by kernel_rfl) (by kernel_rfl)
theorem fac_fixed (g : GfM) {p m : Int} {mod : List Int} [hF : IsF p m mod] (hg : GOk g p m mod) (A : Option Addr) (n c0 N : Nat) (f : Po (El p m mod)) (hn : n = N + 1) (hN : Po.len f = N + 1) (hN1 : 1 ≤ N) (hl : Po.lead f = 1) (h9 : Po.len f ≤ 257) :
  Pure Tryz.prog 77 #[.pointer (some g.p), .slice A n c0] [gfR g, ro A (ints (il f))] (two (fun v ca cb => ∃ B cap os, v = .slice B os.length cap ∧ ca = ow B 22 cap (hdrs os) ∧ cb = rowsCh 3 os ∧ ∃ bs : List (Po (El p m mod)), xss os = bs.map (fun b => il b) ∧ Bss f bs ∧ os.length ≤ 256)) := by
 have hq2 := hF.q2
 have hq9 := hF.out.1.1.q
 have hgq := hg.eq
 have hf0 : f ≠ 0 := lead1_ne hl
 have hilf := il_length f
 have hfe : facE (Po.len (pol (il f) : Po (El p m mod))) = 0 := by rw [pol_il, facE, if_neg (by omega), if_neg (by omega)]
 have hxl : ∀ k, (il (xk f (k))).length ≤ N := fun k => by
  rw [il_length]
  have := Po.rem_len (Po.mn 1 k : Po (El p m mod)) hf0
  unfold xk; omega
 have h10 : ([1] : List Int) = il (xk f (Int.toNat 0 * (pw p m).toNat)) := by
  rw [show Int.toNat 0 * (pw p m).toNat = 0 by simp, xk_zero (by omega), il_one]
 have hx1 : Po.rem (Rg.pow (pol [0, 1] : Po (El p m mod)) (pw p m).toNat) (pol (il f)) = (xk f ((pw p m).toNat)) := by
  rw [pol_X01, pol_il]
  show Po.rem (Rg.pow (Po.mn 1 1) _) f = _
  rw [pow_mn, Nat.one_mul]; rfl
 refine pure_of (args := [.pointer (some g.p), .slice A n c0]) 206 Tryz.func77 rfl rfl rfl fac_fixed_ent ⟨id, id, trivial⟩ (fun w0 => ?_)
 refine tS ?_
 refine tR fun _ _ _ => ?_
 refine pV ?_
 refine tS ?_
 refine tR fun _ _ _ => ?_
 refine pV ?_
 refine sV (rLen rfl rfl) ?_
 refine sV (rSub rfl rfl rfl (by omega) (by omega)) ?_
 refine pV ?_
 rw [show (n : Int) - 1 = (N : Int) by omega]
 refine tS ?_
 refine tR fun _ _ _ => ?_
 refine pV ?_
 refine eV (eLit2I rfl rfl rfl rfl rfl (fun A2 => ?_))
 refine pV ?_
 refine eV (eCallV rfl rfl rfl (gf_Order g) ⟨rfl, trivial⟩ ?_)
 refine pV ?_
 rw [hgq]
 refine eV (eCall1 rfl rfl rfl (poly_PowMod g hg A2 _ 2 [0, 1] rfl (by simp) (pw p m) (by omega) (by omega) A n c0 (il f) (by omega) (by omega) hfe) ⟨rfl, rfl, rfl, rfl, trivial⟩ ?_)
 rintro _ _ ⟨B2, b2, rfl, rfl⟩
 iterate 5 refine pV ?_
 rw [hx1]
 refine tS ?_
 refine tR fun _ _ _ => ?_
 refine pV ?_
 refine eV (eMake rfl rfl rfl rfl rfl (by omega) (by omega) (by omega) (fun A3 => ?_))
 refine pV ?_
 rw [Int.toNat_natCast, hdrs_rep]
 refine tS ?_
 refine tR fun _ _ _ => ?_
 refine eV (eLit1I rfl rfl rfl rfl (fun A4 => ?_))
 refine pV ?_
 refine tS ?_
 refine tS ?_
 refine tR fun _ _ _ => ?_
 refine pV ?_
 refine sV (rLen rfl rfl) ?_
 refine pV ?_
 refine tB ?_
 refine tr_loop5 (fun (i : Int) (rs : List RowM) (Bp : Option Addr) (cp : Nat) (l : List Int) => [(5, .int .i64 (N : Int)), (8, .slice A3 N N), (9, .slice Bp l.length cp), (40, .int .i64 i), (39, .int .i64 (N : Int)), (0, .pointer (some g.p)), (1, .slice A n c0), (4, .slice none 0 0), (6, .slice B2 (il (xk f ((pw p m).toNat))).length b2)]) (fun (i : Int) (rs : List RowM) (Bp : Option Addr) (cp : Nat) (l : List Int) => [ow A3 22 N (hdrs rs), rowsCh 3 rs, ow Bp 3 cp (ints l), ow B2 3 b2 (ints (il (xk f ((pw p m).toNat)))), gfR g, ro A (ints (il f))]) (fun (i : Int) (rs : List RowM) (Bp : Option Addr) (cp : Nat) (l : List Int) => (0 ≤ i ∧ i ≤ N) ∧ l = il (xk f (i.toNat * (pw p m).toNat)) ∧ rs.length = N ∧ ∀ j, j < i.toNat → RowS f N j (rs.getD j rowD).xs) (fun (i : Int) (rs : List RowM) (Bp : Option Addr) (cp : Nat) (l : List Int) => (N - i).toNat) (0) (List.replicate N rowD) (A4) (1) ([1]) ⟨rfl, rfl, rfl, rfl, rfl, rfl, rfl, rfl, rfl, trivial⟩ (by exact (rows_rep 3 _ N).trans (cs _ _)) (⟨⟨by omega, by omega⟩, h10, by simp, fun j hj => absurd hj (by omega)⟩) (fun i rs Bp cp l hI => ?_)
 obtain ⟨⟨hi0, hi1⟩, rfl, hrl, hrs⟩ := hI
 refine tS ?_
 refine tR fun _ _ _ => ?_
 refine pV ?_
 refine tS ?_
 refine tC rfl (fun h6 => ?_) (fun h6 => ?_)
 ·try simp only [zbA] at h6
  refine tK ?_
  refine tS ?_
  refine tB ?_
  refine tS ?_
  refine tR fun _ _ _ => ?_
  iterate 2 refine pV ?_
  refine tS ?_
  refine tR fun _ _ _ => ?_
  refine pV ?_
  refine sV (rMul rfl rfl rfl (by omega) (by omega)) ?_
  refine eV (eMakeI rfl rfl rfl rfl rfl (by omega) (by omega) (by omega) (fun A8 => ?_))
  refine pV ?_
  rw [show (2 * (N : Int)).toNat = 2 * N by omega]
  refine tS ?_
  refine tR fun _ _ _ => ?_
  iterate 2 refine pV ?_
  have hxi := hxl (i.toNat * (pw p m).toNat)
  have hcz := copy_zeros (2 * N) (il (xk f (i.toNat * (pw p m).toNat))) (by omega)
  refine eV (eCopyI (A := A8) (lo := 0) rfl rfl rfl rfl (cutA_zeroR A8 _) rfl (by simp) (by first | omega | simp) ?_)
  obtain ⟨L0, hL0⟩ : ∃ L0, L0 = (List.replicate (2 * N) (0 : Int)).take 0 ++ (il (xk f (i.toNat * (pw p m).toNat))).take (min (il (xk f (i.toNat * (pw p m).toNat))).length (2 * N)) ++ (List.replicate (2 * N) 0).drop (0 + min (il (xk f (i.toNat * (pw p m).toNat))).length (2 * N)) := ⟨_, rfl⟩
  rw [← hL0] at hcz ⊢
  obtain ⟨hcl, hcg⟩ := hcz
  refine tS ?_
  refine tR fun _ _ _ => ?_
  iterate 5 refine pV ?_
  refine sV (rIdxI rfl rfl rfl (by omega) (by omega) (by omega)) ?_
  refine sV (rLdI rfl rfl (by omega)) ?_
  refine eV (eCallV rfl rfl rfl (gf_SubE g hg _ _) ⟨rfl, rfl, rfl, trivial⟩ ?_)
  refine sV (rIdxI rfl rfl rfl (by omega) (by omega) (by omega)) ?_
  refine eV (eStI rfl rfl rfl rfl (by omega) ?_)
  refine tS ?_
  have hsl : (L0.set i.toNat (el (L0.getD i.toNat 0) - el 1 : El p m mod).1).length = 2 * N := by rw [List.length_set]; exact hcl
  refine tR fun _ _ _ => ?_
  iterate 3 refine pV ?_
  refine sV (rAdd rfl rfl rfl (by omega) (by omega)) ?_
  refine sV (rIdxI rfl rfl rfl (by omega) (by omega) (by omega)) ?_
  refine eV (eStI rfl rfl rfl rfl (by omega) ?_)
  rw [show ((N : Int) + i).toNat = N + i.toNat by omega]
  have hR : RowS f N i.toNat ((L0.set i.toNat (el (L0.getD i.toNat 0) - el 1 : El p m mod).1).set (N + i.toNat) 1) := rowS_mk hf0 hN (by omega) hcl hcg (by rw [hcg, il_getD, el_of, el_one])
  obtain ⟨L1, hL1⟩ : ∃ L1, L1 = (L0.set i.toNat (el (L0.getD i.toNat 0) - el 1 : El p m mod).1).set (N + i.toNat) 1 := ⟨_, rfl⟩
  rw [← hL1] at hR ⊢
  refine tS ?_
  refine tR fun _ _ _ => ?_
  iterate 3 refine pV ?_
  refine sV (rIdxR rfl rfl rfl (by omega) (by omega) (by omega)) ?_
  refine eV (eSt rfl rfl rfl rfl (by first | omega | (simp; omega)) rfl rfl ?_)
  have e5 : (hdrs rs).set i.toNat (.slice A8 (2 * N) (2 * N)) = hdrs (rs.set i.toNat ⟨A8, 2 * N, L1⟩) := by rw [hdrs_set]; simp [RowM.hdr, hR.len]
  rw [e5]
  refine tR fun _ _ _ => ?_
  iterate 4 refine pV ?_
  refine eV (eLit2R (il (xk f (i.toNat * (pw p m).toNat))) (il (xk f ((pw p m).toNat))) rfl rfl rfl rfl rfl (fun A13 => ?_))
  skip
  refine eV (eCall1 rfl rfl rfl (poly_Mul2 g hg A13 Bp cp (il (xk f (i.toNat * (pw p m).toNat))) B2 b2 (il (xk f ((pw p m).toNat))) (by have := hxl (i.toNat * (pw p m).toNat); omega) (by have := hxl (pw p m).toNat; omega)) ⟨rfl, rfl, trivial⟩ ?_)
  rintro _ _ ⟨Bm, cm, rfl, rfl⟩
  refine pV ?_
  have hpl := il_length (pol (il (xk f (i.toNat * (pw p m).toNat))) * pol (il (xk f ((pw p m).toNat))) : Po (El p m mod))
  have hpl2 := len_mul_le (pol (il (xk f (i.toNat * (pw p m).toNat)))) (pol (il (xk f ((pw p m).toNat))) : Po (El p m mod))
  have hpe := congrArg Po.len (pol_il (p := p) (m := m) (mod := mod) (xk f (i.toNat * (pw p m).toNat)))
  have hpf := congrArg Po.len (pol_il (p := p) (m := m) (mod := mod) (xk f ((pw p m).toNat)))
  have hpa := il_length (xk f (i.toNat * (pw p m).toNat))
  have hpb := il_length (xk f ((pw p m).toNat))
  have hpc := hxl (i.toNat * (pw p m).toNat)
  have hpd := hxl (pw p m).toNat
  refine eV (eCall2 rfl rfl rfl (poly_DivMod g hg Bm _ cm (il (pol (il (xk f (i.toNat * (pw p m).toNat))) * pol (il (xk f ((pw p m).toNat))))) rfl (by omega) A n c0 (il f) (by omega) (by omega) (by rw [pol_il]; exact hf0)) ⟨rfl, rfl, rfl, trivial⟩ ?_)
  rintro _ _ _ ⟨Qd, qd, Bd, cd, rfl, rfl, rfl⟩
  iterate 5 refine pV ?_
  rw [pol_il, pol_il, pol_il, pol_il, xk_add hf0, show i.toNat * (pw p m).toNat + (pw p m).toNat = (i + 1).toNat * (pw p m).toNat by rw [show (i + 1).toNat = i.toNat + 1 by omega, Nat.succ_mul]]
  refine tR fun _ _ _ => ?_
  refine sV (rAdd rfl rfl rfl (by omega) (by omega)) ?_
  refine pV ?_
  refine ⟨i + 1, rs.set i.toNat ⟨A8, 2 * N, L1⟩, Bd, cd, il (xk f ((i + 1).toNat * (pw p m).toNat)), ⟨rfl, rfl, rfl, rfl, rfl, rfl, rfl, rfl, rfl, trivial⟩, by exact (cs _ [rowsCh 3 rs, ow A8 3 (2 * N) (ints L1), ow A3 22 N (hdrs (rs.set i.toNat ⟨A8, 2 * N, L1⟩)), ow Bd 3 cd (ints (il (xk f ((i + 1).toNat * (pw p m).toNat)))), ow B2 3 b2 (ints (il (xk f ((pw p m).toNat)))), gfR g, ro A (ints (il f))]).trans ((rows_put (r := ⟨A8, 2 * N, L1⟩) (show i.toNat < rs.length by omega) _).trans (cs _ _)), ?_⟩
  refine ⟨⟨⟨by omega, by omega⟩, rfl, by simpa using hrl, fun j hj => ?_⟩, by omega⟩
  rw [row_set]
  by_cases he : i.toNat = j
  ·rw [if_pos ⟨he, by omega⟩, ← he]; exact hR
  ·rw [if_neg (fun e => he e.1)]; exact hrs j (by omega)
 ·try simp only [zbA] at h6
  refine tE ?_
  refine tS ?_
  obtain ⟨hst, hgd0⟩ := rowS_sta hf0 hN hrl (fun j hj => hrs j (by omega))
  refine tR fun _ _ _ => ?_
  refine pV ?_
  refine tS ?_
  refine tS ?_
  refine tR fun _ _ _ => ?_
  refine pV ?_
  refine tB ?_
  refine tr_loop3 (fun (c : Int) (a : Int) (rs : List RowM) => [(5, .int .i64 (N : Int)), (8, .slice A3 N N), (12, .int .i64 a), (13, .int .i64 c), (0, .pointer (some g.p)), (4, .slice none 0 0)]) (fun (c : Int) (a : Int) (rs : List RowM) => [ow A3 22 N (hdrs rs), rowsCh 3 rs, gfR g, ro A (ints (il f))]) (fun (c : Int) (a : Int) (rs : List RowM) => (0 ≤ c ∧ c ≤ N) ∧ (0 ≤ a ∧ a ≤ N) ∧ (rs.length = N ∧ Gd (pw p m) (2 * N) rs) ∧ Fwd f N (vsR rs) c.toNat a.toNat) (fun (c : Int) (a : Int) (rs : List RowM) => (N - c).toNat) (0) (0) (rs) ⟨rfl, rfl, rfl, rfl, rfl, rfl, trivial⟩ (by first | exact cs _ _ | exact CSub.refl _) (⟨⟨by omega, by omega⟩, ⟨by omega, by omega⟩, ⟨hrl, hgd0⟩, hst.fwd hN⟩) (fun c a rs hI => ?_)
  obtain ⟨⟨hc0, hc1⟩, ⟨ha0, ha1⟩, ⟨hrl, hgd⟩, hW⟩ := hI
  refine tS ?_
  refine tS ?_
  refine tR fun _ _ _ => ?_
  iterate 4 refine pV ?_
  refine stg rfl rfl rfl rfl rfl (fun hb => by (have hq := hb; try simp only [zbA] at hq); exact rMove rfl rfl) ?_
  refine stg rfl rfl rfl rfl rfl (fun hb => by (have hq := hb; try simp only [zbA] at hq); exact rMove rfl rfl) ?_
  refine stg rfl rfl rfl rfl rfl (fun hb => by (have hq := hb; try simp only [zbA] at hq); exact rLss rfl (evg rfl hb) (evg rfl hb)) ?_
  refine sV (rAndB rfl rfl rfl rfl) ?_
  refine tC rfl (fun h17 => ?_) (fun h17 => ?_)
  ·try simp only [zbA] at h17
   refine tK ?_
   refine tS ?_
   refine tB ?_
   refine tS ?_
   refine tR fun _ _ _ => ?_
   iterate 2 refine pV ?_
   refine tS ?_
   refine tB ?_
   refine tr_loop1 (fun (k : Int) => [(5, .int .i64 (N : Int)), (8, .slice A3 N N), (12, .int .i64 a), (13, .int .i64 c), (14, .int .i64 k), (0, .pointer (some g.p)), (4, .slice none 0 0), (80, .int .i64 c), (81, .int .i64 (N : Int)), (90, .int .i64 a)]) (fun (k : Int) => [ow A3 22 N (hdrs rs), rowsCh 3 rs, gfR g, ro A (ints (il f))]) (fun (k : Int) => (a ≤ k ∧ k ≤ N) ∧ ∀ i : Nat, a ≤ (i : Int) → (i : Int) < k → (rs.getD i rowD).xs.getD c.toNat 0 = 0) (fun (k : Int) => (N - k).toNat) (a) ⟨rfl, rfl, rfl, rfl, rfl, rfl, rfl, rfl, rfl, rfl, trivial⟩ (by first | exact cs _ _ | exact CSub.refl _) (⟨⟨by omega, by omega⟩, fun i h1 h2 => by omega⟩) (fun k hI => ?_)
   obtain ⟨⟨hk0, hk1⟩, hkz⟩ := hI
   refine tS ?_
   refine tS ?_
   refine tR fun _ _ _ => ?_
   iterate 4 refine pV ?_
   refine stg rfl rfl rfl rfl rfl (fun hb => by (have hq := hb; try simp only [zbA] at hq); exact rMove rfl rfl) ?_
   refine stg rfl rfl rfl rfl rfl (fun hb => by (have hq := hb; try simp only [zbA] at hq); exact rMove rfl rfl) ?_
   refine stg rfl rfl rfl rfl rfl (fun hb => by (have hq := hb; try simp only [zbA] at hq); exact rIdxR rfl (evg rfl hb) (evg rfl hb) (by omega) (by omega) (by omega)) ?_
   refine stg rfl rfl rfl rfl rfl (fun hb => by (have hq := hb; try simp only [zbA] at hq); exact rLdR rfl (evg rfl hb) (by omega)) ?_
   refine stg rfl rfl rfl rfl rfl (fun hb => by (have hq := hb; try simp only [zbA] at hq); exact rMove rfl rfl) ?_
   refine stg rfl rfl rfl rfl rfl (fun hb => by (have hq := hb; try simp only [zbA] at hq); exact (haveI : InB k.toNat rs.length := ⟨by omega⟩; have hw := (hgd.get (show k.toNat < rs.length by omega)).1; rIdxI rfl (evg rfl hb) (evg rfl hb) (by omega) (by omega) (by omega))) ?_
   refine stg rfl rfl rfl rfl rfl (fun hb => by (have hq := hb; try simp only [zbA] at hq); exact (haveI : InB k.toNat rs.length := ⟨by omega⟩; have hw := (hgd.get (show k.toNat < rs.length by omega)).1; rLdI rfl (evg rfl hb) (by omega))) ?_
   refine stg rfl rfl rfl rfl rfl (fun hb => by (have hq := hb; try simp only [zbA] at hq); exact rEql rfl (evg rfl hb) rfl) ?_
   refine sV (rAndB rfl rfl rfl rfl) ?_
   refine tC rfl (fun h20 => ?_) (fun h20 => ?_)
   ·try simp only [zbA] at h20
    refine tK ?_
    refine tB ?_
    refine tR fun _ _ _ => ?_
    refine pV ?_
    refine sV (rAdd rfl rfl rfl (by omega) (by omega)) ?_
    refine pV ?_
    refine ⟨k + 1, ⟨rfl, rfl, rfl, rfl, rfl, rfl, rfl, rfl, rfl, rfl, trivial⟩, by first | exact cs _ _ | exact CSub.refl _, ?_⟩
    refine ⟨⟨⟨by omega, by omega⟩, fun i h1 h2 => ?_⟩, by omega⟩
    by_cases he : (i : Int) = k
    ·have : i = k.toNat := by omega
     rw [this]; exact h20.2
    ·exact hkz i h1 (by omega)
   ·try simp only [zbA] at h20
    refine tE ?_
    refine tS ?_
    refine tS ?_
    refine tR fun _ _ _ => ?_
    iterate 3 refine pV ?_
    refine tC rfl (fun h22 => ?_) (fun h22 => ?_)
    ·try simp only [zbA] at h22
     refine tE ?_
     refine tR fun _ _ _ => ?_
     refine pV ?_
     refine sV (rAdd rfl rfl rfl (by omega) (by omega)) ?_
     refine pV ?_
     refine ⟨c + 1, a, rs, ⟨rfl, rfl, rfl, rfl, rfl, rfl, trivial⟩, by first | exact cs _ _ | exact CSub.refl _, ?_⟩
     refine ⟨⟨⟨by omega, by omega⟩, ⟨ha0, ha1⟩, ⟨hrl, hgd⟩, ?_⟩, by omega⟩
     rw [show (c + 1).toNat = c.toNat + 1 by omega]
     exact hW.skip fun i h1 h2 => by rw [vsR_at, hkz i (by omega) (by omega), el_zero]
    ·try simp only [zbA] at h22
     refine tK ?_
     refine tS ?_
     have hne : (rs.getD k.toNat rowD).xs.getD c.toNat 0 ≠ 0 := h20.resolve_left (fun h => h (by omega))
     haveI : InB k.toNat rs.length := ⟨by omega⟩
     haveI : InB a.toNat rs.length := ⟨by omega⟩
     refine tr_plan [] [(0, 0), (0, 1), (2, 2), (2, 3), (0, 4), (0, 5), (0, 6), (0, 7), (0, 8), (0, 9), (0, 10), (0, 11), (0, 12), (1, 13), (0, 14), (1, 15)] mixed (by kernel_rfl) fun _ _ _ => ?_
     iterate 2 refine pV ?_
     refine stF rfl rfl rfl rfl (cs _ _) (rMove rfl rfl) ?_
     refine stF rfl rfl rfl rfl (cs _ _) (rMove rfl rfl) ?_
     iterate 2 refine pV ?_
     refine sV (rIdxR rfl rfl rfl (by omega) (by omega) (by omega)) ?_
     refine sV (rLdR rfl rfl (by omega)) ?_
     iterate 2 refine pV ?_
     refine sV (rIdxR rfl rfl rfl (by omega) (by omega) (by omega)) ?_
     refine sV (rLdR rfl rfl (by omega)) ?_
     refine sV (rIdxR rfl rfl rfl (by omega) (by omega) (by omega)) ?_
     refine eV (eSt rfl rfl rfl rfl (by first | omega | (simp; omega)) rfl rfl ?_)
     refine ⟨cs _ _, ?_⟩
     refine sV (rIdx rfl rfl rfl (by omega) (by omega) (by simp; omega)) ?_
     refine eV (eSt rfl rfl rfl rfl (by first | omega | (simp; omega)) rfl rfl ?_)
     refine ⟨cs _ _, ?_⟩
     have hh : ((hdrs rs).set a.toNat (.slice (rs.getD k.toNat rowD).A (rs.getD k.toNat rowD).xs.length (rs.getD k.toNat rowD).cap)).set k.toNat (.slice (rs.getD a.toNat rowD).A (rs.getD a.toNat rowD).xs.length (rs.getD a.toNat rowD).cap) = hdrs ((rs.set a.toNat (rs.getD k.toNat rowD)).set k.toNat (rs.getD a.toNat rowD)) := by rw [hdrs_set, hdrs_set]; rfl
     rw [hh]
     refine tr_chunks _ ((cs _ [rowsCh 3 rs, ow A3 22 N (hdrs ((rs.set a.toNat (rs.getD k.toNat rowD)).set k.toNat (rs.getD a.toNat rowD))), gfR g, ro A (ints (il f))]).trans (rows_perm (swap_perm rowD rs (i := a.toNat) (j := k.toNat) (by omega) (by omega)) _)) ?_
     have hrl3 : ((rs.set a.toNat (rs.getD k.toNat rowD)).set k.toNat (rs.getD a.toNat rowD)).length = N := by simpa using hrl
     have hgd3 := hgd.perm (swap_perm rowD rs (i := a.toNat) (j := k.toNat) (by omega) (by omega))
     have hW3 : Fwd f N (vsR ((rs.set a.toNat (rs.getD k.toNat rowD)).set k.toNat (rs.getD a.toNat rowD))) c.toNat a.toNat := by
      have := hW.swap (k := k.toNat) (by omega) (by omega)
      rw [vsR_get, vsR_get] at this
      rw [vsR_set, vsR_set]; exact this
     have hne3 : (((rs.set a.toNat (rs.getD k.toNat rowD)).set k.toNat (rs.getD a.toNat rowD)).getD a.toNat rowD).xs.getD c.toNat 0 ≠ 0 := by
      rw [row_set, row_set]
      by_cases e : k.toNat = a.toNat
      ·rw [if_pos ⟨e, by simp; omega⟩, ← e]; exact hne
      ·rw [if_neg (fun x => e x.1), if_pos ⟨rfl, by omega⟩]; exact hne
     generalize (rs.set a.toNat (rs.getD k.toNat rowD)).set k.toNat (rs.getD a.toNat rowD) = r3 at hrl3 hgd3 hW3 hne3
     haveI : InB a.toNat r3.length := ⟨by omega⟩
     have hw3 := hgd3.get (show a.toNat < r3.length by omega)
     have hen := hw3.2.get (by omega) c.toNat
     have hnz3 : (el ((r3.getD a.toNat rowD).xs.getD c.toNat 0) : El p m mod) ≠ 0 := fun e => hne3 ((el_eq_zero hen).1 e)
     have hw31 := hw3.1
     refine tS ?_
     refine tR fun _ _ _ => ?_
     iterate 3 refine pV ?_
     refine sV (rIdxR rfl rfl rfl (by omega) (by omega) (by omega)) ?_
     refine sV (rLdR rfl rfl (by omega)) ?_
     refine pV ?_
     refine sV (rIdxI rfl rfl rfl (by omega) (by omega) (by omega)) ?_
     refine sV (rLdI rfl rfl (by omega)) ?_
     refine eV (eCallV rfl rfl rfl (gf_InvE g hg _ hnz3) ⟨rfl, rfl, trivial⟩ ?_)
     iterate 5 refine pV ?_
     refine tS ?_
     refine tS ?_
     refine tR fun _ _ _ => ?_
     refine pV ?_
     refine sV (rAdd rfl rfl rfl (by omega) (by omega)) ?_
     refine pV ?_
     refine tB ?_
     refine tr_loop2 (fun (i : Int) (r5 : List RowM) => [(5, .int .i64 (N : Int)), (8, .slice A3 N N), (12, .int .i64 a), (13, .int .i64 c), (15, .int .i64 (Fd.inv (el ((r3.getD a.toNat rowD).xs.getD c.toNat 0)) : El p m mod).1), (17, .int .i64 i), (0, .pointer (some g.p)), (4, .slice none 0 0), (14, .int .i64 k), (80, .int .i64 c), (81, .int .i64 (N : Int)), (90, .int .i64 a), (91, .int .i64 k), (92, .int .i64 (N : Int)), (106, .int .i64 k), (107, .int .i64 (N : Int)), (109, .slice A3 N N), (110, .int .i64 a), (113, .slice A3 N N), (114, .int .i64 k), (117, .slice A3 N N), (118, .int .i64 a), (124, .pointer (some g.p)), (125, .slice A3 N N), (126, .int .i64 a), (129, .int .i64 c), (135, .int .i64 a)]) (fun (i : Int) (r5 : List RowM) => [ow A3 22 N (hdrs r5), rowsCh 3 r5, gfR g, ro A (ints (il f))]) (fun (i : Int) (r5 : List RowM) => (a + 1 ≤ i ∧ i ≤ N) ∧ (r5.length = N ∧ Gd (pw p m) (2 * N) r5) ∧ Fwd f N (vsR r5) c.toNat a.toNat ∧ r5.getD a.toNat rowD = r3.getD a.toNat rowD ∧ ∀ t : Nat, a < (t : Int) → (t : Int) < i → (r5.getD t rowD).xs.getD c.toNat 0 = 0) (fun (i : Int) (r5 : List RowM) => (N - i).toNat) (a + 1) (r3) ⟨rfl, rfl, rfl, rfl, rfl, rfl, rfl, rfl, rfl, rfl, rfl, rfl, rfl, rfl, rfl, rfl, rfl, rfl, rfl, rfl, rfl, rfl, rfl, rfl, rfl, rfl, rfl, trivial⟩ (by first | exact cs _ _ | exact CSub.refl _) (⟨⟨by omega, by omega⟩, ⟨hrl3, hgd3⟩, hW3, rfl, fun t h1 h2 => by omega⟩) (fun i r5 hI => ?_)
     obtain ⟨⟨hi0, hi1⟩, ⟨hrl5, hgd5⟩, hW5, hra5, hz5⟩ := hI
     refine tS ?_
     refine tS ?_
     refine tR fun _ _ _ => ?_
     iterate 3 refine pV ?_
     refine tC rfl (fun h26 => ?_) (fun h26 => ?_)
     ·try simp only [zbA] at h26
      refine tK ?_
      refine tS ?_
      refine tB ?_
      refine tS ?_
      haveI : InB i.toNat r5.length := ⟨by omega⟩
      haveI : InB a.toNat r5.length := ⟨by omega⟩
      have hwi := hgd5.get (show i.toNat < r5.length by omega)
      have hwa := hgd5.get (show a.toNat < r5.length by omega)
      have hwi1 := hwi.1
      have hwa1 := hwa.1
      have heni := hwi.2.get (by omega) c.toNat
      refine tR fun _ _ _ => ?_
      iterate 3 refine pV ?_
      refine sV (rIdxR rfl rfl rfl (by omega) (by omega) (by omega)) ?_
      refine sV (rLdR rfl rfl (by omega)) ?_
      refine pV ?_
      refine sV (rIdxI rfl rfl rfl (by omega) (by omega) (by omega)) ?_
      refine sV (rLdI rfl rfl (by omega)) ?_
      refine pV ?_
      refine eV (eCallV rfl rfl rfl (gf_MulE g hg _ _) ⟨rfl, rfl, rfl, trivial⟩ ?_)
      refine pV ?_
      rw [el_of]
      refine tS ?_
      refine tR fun _ _ _ => ?_
      iterate 2 refine pV ?_
      refine tC rfl (fun h29 => ?_) (fun h29 => ?_)
      ·try simp only [zbA] at h29
       refine tS ?_
       refine tR fun _ _ _ => ?_
       iterate 2 refine pV ?_
       refine tr_chunks _ (((cs _ [rowsCh 3 r5, ow A3 22 N (hdrs r5), gfR g, ro A (ints (il f))]).trans (rows_out (show i.toNat < r5.length by omega) _) : CSub _ [ow (r5.getD i.toNat rowD).A 3 (r5.getD i.toNat rowD).cap (ints (r5.getD i.toNat rowD).xs), rowsCh 3 (r5.eraseIdx i.toNat), ow A3 22 N (hdrs r5), gfR g, ro A (ints (il f))])) ?_
       haveI : RowIn (r5.getD a.toNat rowD) (r5.eraseIdx i.toNat) := ⟨mem_erase (by omega) (by omega)⟩
       refine tB ?_
       refine tr_loop2 (fun (j : Int) (x : List Int) => [(5, .int .i64 (N : Int)), (8, .slice A3 N N), (12, .int .i64 a), (13, .int .i64 c), (17, .int .i64 i), (18, .int .i64 (el ((r5.getD i.toNat rowD).xs.getD c.toNat 0) * Fd.inv (el ((r3.getD a.toNat rowD).xs.getD c.toNat 0)) : El p m mod).1), (19, .int .i64 j), (0, .pointer (some g.p)), (4, .slice none 0 0), (14, .int .i64 k), (15, .int .i64 (Fd.inv (el ((r3.getD a.toNat rowD).xs.getD c.toNat 0)) : El p m mod).1), (80, .int .i64 c), (81, .int .i64 (N : Int)), (90, .int .i64 a), (91, .int .i64 k), (92, .int .i64 (N : Int)), (106, .int .i64 k), (107, .int .i64 (N : Int)), (109, .slice A3 N N), (110, .int .i64 a), (113, .slice A3 N N), (114, .int .i64 k), (117, .slice A3 N N), (118, .int .i64 a), (124, .pointer (some g.p)), (125, .slice A3 N N), (126, .int .i64 a), (129, .int .i64 c), (135, .int .i64 a), (137, .int .i64 i), (138, .int .i64 (N : Int)), (142, .pointer (some g.p)), (143, .slice A3 N N), (144, .int .i64 i), (147, .int .i64 c), (150, .int .i64 (Fd.inv (el ((r3.getD a.toNat rowD).xs.getD c.toNat 0)) : El p m mod).1), (154, .int .i64 c)]) (fun (j : Int) (x : List Int) => [ow (r5.getD i.toNat rowD).A 3 (r5.getD i.toNat rowD).cap (ints x), rowsCh 3 (r5.eraseIdx i.toNat), ow A3 22 N (hdrs r5), gfR g, ro A (ints (il f))]) (fun (j : Int) (x : List Int) => (c ≤ j ∧ j ≤ 2 * N) ∧ x.length = 2 * N ∧ ∀ t : Nat, t < 2 * N → x.getD t 0 = if c ≤ (t : Int) ∧ (t : Int) < j then (el ((r5.getD i.toNat rowD).xs.getD t 0) - (el ((r5.getD i.toNat rowD).xs.getD c.toNat 0) * Fd.inv (el ((r3.getD a.toNat rowD).xs.getD c.toNat 0)) : El p m mod) * el ((r5.getD a.toNat rowD).xs.getD t 0) : El p m mod).1 else (r5.getD i.toNat rowD).xs.getD t 0) (fun (j : Int) (x : List Int) => (2 * N - j).toNat) (c) ((r5.getD i.toNat rowD).xs) ⟨rfl, rfl, rfl, rfl, rfl, rfl, rfl, rfl, rfl, rfl, rfl, rfl, rfl, rfl, rfl, rfl, rfl, rfl, rfl, rfl, rfl, rfl, rfl, rfl, rfl, rfl, rfl, rfl, rfl, rfl, rfl, rfl, rfl, rfl, rfl, rfl, rfl, trivial⟩ (by first | exact cs _ _ | exact CSub.refl _) (⟨⟨by omega, by omega⟩, hwi.1, fun t ht => by rw [if_neg (by omega)]⟩) (fun j x hI => ?_)
       obtain ⟨⟨hj0, hj1⟩, hxl2, hx⟩ := hI
       refine tS ?_
       refine tS ?_
       refine tR fun _ _ _ => ?_
       iterate 2 refine pV ?_
       refine sV (rMul rfl rfl rfl (by omega) (by omega)) ?_
       refine pV ?_
       refine tC rfl (fun h31 => ?_) (fun h31 => ?_)
       ·try simp only [zbA] at h31
        refine tK ?_
        refine tS ?_
        refine tB ?_
        refine tr_draw [0, 1, 2, 3, 4, 5, 6, 7, 8, 9, 10, 11, 12, 13, 14, 15, 16, 17, 18, 19, 20, 21, 22, 23, 24] [25] mixed (by kernel_rfl) fun _ _ _ => ?_
        iterate 2 refine pV ?_
        refine sV (rIdxR rfl rfl rfl (by omega) (by omega) (by omega)) ?_
        refine sV (rLdR rfl rfl (by omega)) ?_
        iterate 4 refine pV ?_
        refine sV (rIdxR rfl rfl rfl (by omega) (by omega) (by omega)) ?_
        refine sV (rLdR rfl rfl (by omega)) ?_
        refine pV ?_
        refine sV (rIdxI rfl rfl rfl (by omega) (by omega) (by omega)) ?_
        refine sV (rLdI rfl rfl (by omega)) ?_
        iterate 4 refine pV ?_
        refine sV (rIdxR rfl rfl rfl (by omega) (by omega) (by omega)) ?_
        refine sV (rLdR rfl rfl (by omega)) ?_
        refine pV ?_
        refine sV (rIdxI rfl rfl rfl (by omega) (by omega) (by omega)) ?_
        refine sV (rLdI rfl rfl (by omega)) ?_
        refine eV (eCallV rfl rfl rfl (gf_MulE g hg _ _) ⟨rfl, rfl, rfl, trivial⟩ ?_)
        refine eV (eCallV rfl rfl rfl (gf_SubE g hg _ _) ⟨rfl, rfl, rfl, trivial⟩ ?_)
        refine sV (rIdxI rfl rfl rfl (by omega) (by omega) (by omega)) ?_
        refine eV (eStI rfl rfl rfl rfl (by omega) ?_)
        refine tR fun _ _ _ => ?_
        refine pV ?_
        refine sV (rAdd rfl rfl rfl (by omega) (by omega)) ?_
        refine pV ?_
        refine ⟨j + 1, x.set j.toNat (el (x.getD j.toNat 0) - el (el ((el ((r5.getD i.toNat rowD).xs.getD c.toNat 0) * Fd.inv (el ((r3.getD a.toNat rowD).xs.getD c.toNat 0)) : El p m mod)).1 * el ((r5.getD a.toNat rowD).xs.getD j.toNat 0) : El p m mod).1 : El p m mod).1, ⟨rfl, rfl, rfl, rfl, rfl, rfl, rfl, rfl, rfl, rfl, rfl, rfl, rfl, rfl, rfl, rfl, rfl, rfl, rfl, rfl, rfl, rfl, rfl, rfl, rfl, rfl, rfl, rfl, rfl, rfl, rfl, rfl, rfl, rfl, rfl, rfl, rfl, trivial⟩, by first | exact cs _ _ | exact CSub.refl _, ?_⟩
        refine ⟨⟨⟨by omega, by omega⟩, by simpa using hxl2, fun t ht => ?_⟩, by omega⟩
        rw [getD_set]
        by_cases he : j.toNat = t
        ·subst he
         rw [if_pos ⟨rfl, by omega⟩, if_pos (by omega), hx _ (by omega), if_neg (by omega), el_of, el_of]
        ·rw [if_neg (fun e => he e.1), hx t ht]
         by_cases hct : c ≤ (t : Int) ∧ (t : Int) < j
         ·rw [if_pos hct, if_pos (by omega)]
         ·rw [if_neg hct, if_neg (by omega)]
       ·try simp only [zbA] at h31
        have hset : hdrs (r5.set i.toNat (⟨(r5.getD i.toNat rowD).A, (r5.getD i.toNat rowD).cap, x⟩ : RowM)) = hdrs r5 := by
         have e1 : RowM.hdr (⟨(r5.getD i.toNat rowD).A, (r5.getD i.toNat rowD).cap, x⟩ : RowM) = RowM.hdr (r5.getD i.toNat rowD) := by simp only [RowM.hdr]; rw [hxl2, hwi1]
         rw [hdrs_set, e1, ← hdrs_set]
         congr 1
         rw [List.getD_eq_getElem?_getD, List.getElem?_eq_getElem (show i.toNat < r5.length by omega)]
         exact List.set_getElem_self _
        refine tE ?_
        refine tR fun _ _ _ => ?_
        refine pV ?_
        refine sV (rAdd rfl rfl rfl (by omega) (by omega)) ?_
        refine pV ?_
        refine ⟨i + 1, r5.set i.toNat (⟨(r5.getD i.toNat rowD).A, (r5.getD i.toNat rowD).cap, x⟩ : RowM), ⟨rfl, rfl, rfl, rfl, rfl, rfl, rfl, rfl, rfl, rfl, rfl, rfl, rfl, rfl, rfl, rfl, rfl, rfl, rfl, rfl, rfl, rfl, rfl, rfl, rfl, rfl, rfl, trivial⟩, by rw [show hdrs (r5.set i.toNat (⟨(r5.getD i.toNat rowD).A, (r5.getD i.toNat rowD).cap, x⟩ : RowM)) = hdrs r5 from hset]; exact (cs _ [ow (r5.getD i.toNat rowD).A 3 (r5.getD i.toNat rowD).cap (ints x), rowsCh 3 (r5.eraseIdx i.toNat), ow A3 22 N (hdrs r5), gfR g, ro A (ints (il f))]).trans ((rows_in (r := (⟨(r5.getD i.toNat rowD).A, (r5.getD i.toNat rowD).cap, x⟩ : RowM)) (show i.toNat < r5.length by omega) _).trans (cs _ _)), ?_⟩
        have hxe : x = addR (-(el ((r5.getD i.toNat rowD).xs.getD c.toNat 0) * Fd.inv (el ((r3.getD a.toNat rowD).xs.getD c.toNat 0)) : El p m mod)) (r5.getD i.toNat rowD).xs (r5.getD a.toNat rowD).xs := row_part (c := c.toNat) (by omega) (by omega) hwi.2 (fun t ht => by
          rw [hx t (by omega)]
          by_cases hct : c ≤ (t : Int)
          ·rw [if_pos ⟨hct, by omega⟩, if_pos (by omega)]
          ·rw [if_neg (fun h => hct h.1), if_neg (by omega)]) (fun t ht => by
          have := hW5.zer a.toNat t (Nat.le_refl _) (by omega) ht
          rwa [vsR_at] at this)
        refine ⟨⟨⟨by omega, by omega⟩, ⟨by simpa using hrl5, hgd5.set _ hxl2 ?_⟩, ?_, ?_, fun t h1 h2 => ?_⟩, by omega⟩
        ·rw [hxe]; exact addR_in _ _ _
        ·have := hW5.plus (i := i.toNat) (by omega) (by omega) (-(el ((r5.getD i.toNat rowD).xs.getD c.toNat 0) * Fd.inv (el ((r3.getD a.toNat rowD).xs.getD c.toNat 0)) : El p m mod))
         rw [vsR_get, vsR_get] at this
         rw [vsR_set, hxe, rw_addR _ _ _ (by omega)]; exact this
        ·rw [row_set, if_neg (by omega)]; exact hra5
        ·rw [row_set]
         split
         ·rename_i he
          obtain ⟨rfl, he⟩ := he
          show x.getD c.toNat 0 = 0
          rw [hxe, addR_get _ _ _ (by omega), hra5]
          refine congrArg Subtype.val (show (_ : El p m mod) = 0 from ?_)
          have := Fd.inv_mul _ hnz3
          grind
         ·exact hz5 t h1 (by omega)
      ·try simp only [zbA] at h29
       refine tK ?_
       refine tR fun _ _ _ => ?_
       refine pV ?_
       refine sV (rAdd rfl rfl rfl (by omega) (by omega)) ?_
       refine pV ?_
       refine ⟨i + 1, r5, ⟨rfl, rfl, rfl, rfl, rfl, rfl, rfl, rfl, rfl, rfl, rfl, rfl, rfl, rfl, rfl, rfl, rfl, rfl, rfl, rfl, rfl, rfl, rfl, rfl, rfl, rfl, rfl, trivial⟩, by first | exact cs _ _ | exact CSub.refl _, ?_⟩
       refine ⟨⟨⟨by omega, by omega⟩, ⟨hrl5, hgd5⟩, hW5, hra5, fun t h1 h2 => ?_⟩, by omega⟩
       by_cases he : (t : Int) = i
       ·have ht : t = i.toNat := by omega
        have hm0 : ((el ((r5.getD i.toNat rowD).xs.getD c.toNat 0) * Fd.inv (el ((r3.getD a.toNat rowD).xs.getD c.toNat 0)) : El p m mod)) = 0 := El.ext h29
        have := (Fd.mul_eq_zero hm0).resolve_right (Fd.inv_ne hnz3)
        rw [ht]; exact (el_eq_zero heni).1 this
       ·exact hz5 t h1 (by omega)
     ·try simp only [zbA] at h26
      refine tE ?_
      refine tR fun _ _ _ => ?_
      refine pV ?_
      refine sV (rAdd rfl rfl rfl (by omega) (by omega)) ?_
      refine pV ?_
      refine tR fun _ _ _ => ?_
      refine pV ?_
      refine sV (rAdd rfl rfl rfl (by omega) (by omega)) ?_
      refine pV ?_
      refine ⟨c + 1, a + 1, r5, ⟨rfl, rfl, rfl, rfl, rfl, rfl, trivial⟩, by first | exact cs _ _ | exact CSub.refl _, ?_⟩
      refine ⟨⟨⟨by omega, by omega⟩, ⟨by omega, by omega⟩, ⟨hrl5, hgd5⟩, ?_⟩, by omega⟩
      rw [show (c + 1).toNat = c.toNat + 1 by omega, show (a + 1).toNat = a.toNat + 1 by omega]
      refine hW5.push (by omega) (by omega) ?_ (fun i h1 h2 => ?_)
      ·rw [vsR_at, hra5]; exact hnz3
      ·rw [vsR_at, hz5 i (by omega) (by omega), el_zero]
  ·try simp only [zbA] at h17
   refine tE ?_
   refine tS ?_
   refine tR fun _ _ _ => ?_
   refine pV ?_
   refine tS ?_
   refine tS ?_
   refine tr_capR 3 rs fun hcap => ?_
   obtain ⟨rs6, hrs6⟩ : ∃ r, r = rs.drop a.toNat := ⟨_, rfl⟩
   have hr6l : rs6.length = N - a.toNat := by rw [hrs6, List.length_drop, hrl]
   have hr6m : ∀ r ∈ rs6, r ∈ rs := fun r hr => by rw [hrs6] at hr; exact List.mem_of_mem_drop hr
   refine tR fun _ _ _ => ?_
   iterate 2 refine pV ?_
   refine sV (rCut rfl rfl rfl (by omega) (by omega) (by omega)) ?_
   refine sV (rLen rfl rfl) ?_
   refine pV ?_
   refine tr_chunks [ro (cutA A3 a.toNat N) (hdrs rs6), rowsR rs, gfR g] (hrs6 ▸ (cs _ [ow A3 22 N (hdrs rs), rowsCh 3 rs, gfR g]).trans ((ow_ro _).trans ((ro_cutH a.toNat N (by omega) _).trans (CSub.cons _ ((CSub.drop _ _).trans (rows_weak _)))))) ?_
   refine tB ?_
   refine tr_nilR 22 3 ?_
   refine tr_loop4 (fun (j : Int) (Bq : Option Addr) (cq : Nat) (os : List RowM) => [(5, .int .i64 (N : Int)), (190, .slice (cutA A3 a.toNat N) (N - a.toNat) (N - a.toNat)), (191, .int .i64 ((N - a.toNat : Nat) : Int)), (192, .int .i64 j), (20, .slice Bq os.length cq), (0, .pointer (some g.p)), (4, .slice none 0 0)]) (fun (j : Int) (Bq : Option Addr) (cq : Nat) (os : List RowM) => [ow Bq 22 cq (hdrs os), rowsCh 3 os, ro (cutA A3 a.toNat N) (hdrs rs6), rowsR rs, gfR g]) (fun (j : Int) (Bq : Option Addr) (cq : Nat) (os : List RowM) => (0 ≤ j ∧ j ≤ rs6.length) ∧ xss os = (rs6.take j.toNat).map (fun r : RowM => il (rpV N (rw' r.xs : Vc (El p m mod))))) (fun (j : Int) (Bq : Option Addr) (cq : Nat) (os : List RowM) => (rs6.length - j).toNat) (0) (none) (0) ([]) ⟨rfl, rfl, rfl, rfl, rfl, rfl, rfl, trivial⟩ (by first | exact cs _ _ | exact CSub.refl _) (⟨⟨by omega, by omega⟩, rfl⟩) (fun j Bq cq os hI => ?_)
   obtain ⟨⟨hj0, hj1⟩, hos⟩ := hI
   have hol := congrArg List.length hos
   simp only [xss_length, List.length_map, List.length_take] at hol
   refine tS ?_
   refine tR fun _ _ _ => ?_
   refine pV ?_
   refine tS ?_
   refine tC rfl (fun h37 => ?_) (fun h37 => ?_)
   ·try simp only [zbA] at h37
    refine tK ?_
    refine tS ?_
    refine tB ?_
    refine tS ?_
    refine tR fun _ _ _ => ?_
    refine sV (rIdxR rfl rfl rfl (by omega) (by omega) (by omega)) ?_
    refine sV (rLdR rfl rfl (by omega)) ?_
    refine pV ?_
    have hmj := hr6m _ (getD_mem (show j.toNat < rs6.length by omega) rowD)
    have hcj := hcap _ hmj
    have hgj := (hgd _ hmj).1
    have hpd := pol_drop (p := p) (m := m) (mod := mod) (n := N) hgj
    refine tr_chunks [ro (cutA (rs6.getD j.toNat rowD).A N (rs6.getD j.toNat rowD).cap) (ints ((rs6.getD j.toNat rowD).xs.drop N)), ow Bq 22 cq (hdrs os), rowsCh 3 os, ro (cutA A3 a.toNat N) (hdrs rs6), rowsR rs, gfR g] ((cs _ [rowsR rs, ow Bq 22 cq (hdrs os), rowsCh 3 os, ro (cutA A3 a.toNat N) (hdrs rs6), gfR g]).trans ((row_ro hmj _).trans ((ro_cut N _ hcj _).trans (cs _ _)))) ?_
    refine tR fun _ _ _ => ?_
    iterate 4 refine pV ?_
    refine sV (rCut rfl rfl rfl (by omega) (by omega) (by omega)) ?_
    simp only [Int.toNat_natCast]
    refine eV (eCall1 rfl rfl rfl (poly_CanonE g hg (cutA (rs6.getD j.toNat rowD).A N (rs6.getD j.toNat rowD).cap) _ ((rs6.getD j.toNat rowD).cap - N) ((rs6.getD j.toNat rowD).xs.drop N) (by rw [List.length_drop]) (by rw [List.length_drop]; omega)) ⟨rfl, rfl, trivial⟩ ?_)
    rintro _ _ ⟨Bo, co, rfl, hco, rfl⟩
    rw [hpd]
    refine eV (eLit1 rfl rfl rfl rfl rfl (fun A39a => ?_))
    refine eV (eAppR rfl rfl rfl rfl rfl (by first | rfl | simp | omega) (by omega) (fun A39b c39b => ?_))
    refine pV ?_
    refine tR fun _ _ _ => ?_
    refine sV (rAdd rfl rfl rfl (by omega) (by omega)) ?_
    refine pV ?_
    refine ⟨j + 1, A39b, c39b, os ++ [⟨Bo, co, il (rpV N (rw' (rs6.getD j.toNat rowD).xs : Vc (El p m mod)))⟩], ⟨rfl, rfl, rfl, rfl, rfl, rfl, rfl, trivial⟩, by exact rows_app, ?_⟩
    refine ⟨⟨⟨by omega, by omega⟩, ?_⟩, by omega⟩
    rw [show (j + 1).toNat = j.toNat + 1 by omega, take_getD (by omega) rowD, List.map_append, xss_snoc, hos]
    rfl
   ·try simp only [zbA] at h37
    refine tE ?_
    refine tS ?_
    refine tR fun _ _ _ => ?_
    iterate 2 refine pV ?_
    have hB := hW.done hN hst (by omega) (by omega)
    rw [xss_drop_rp (f := f)] at hB
    have hj6 : j.toNat = rs6.length := by omega
    rw [hj6, List.take_length] at hos
    exact tr_ret ⟨trivial, _, _, rfl, ⟨_, _, rfl, Bq, cq, os, rfl, rfl, rfl, _, by rw [hos, List.map_map]; rfl, by rw [← hrs6] at hB; exact hB, by omega⟩, cs _ _, trivial, trivial, trivial⟩
end Go.Proofs.YtdkahdehodopoaaGreat

set_option maxRecDepth 100000
set_option maxHeartbeats 1000000
namespace Go.Proofs.YtdkahdehodopoaaGreat
open Go.RowKit
section
variable {p m : Int} {mod : List Int} [hF : IsF p m mod]
theorem xss_at {rs : List RowM} {ps : List (Po (El p m mod))} (h : xss rs = ps.map (fun b => il b)) {i : Nat} (hi : i < rs.length) : (rs.getD i rowD).xs = il (ps.getD i 0) := by
 have hl := congrArg List.length h
 simp only [xss_length, List.length_map] at hl
 have := congrArg (fun l => l.getD i []) h
 simp only [xss, List.getD_eq_getElem?_getD, List.getElem?_map, List.getElem?_eq_getElem hi, List.getElem?_eq_getElem (show i < ps.length by omega)] at this
 rw [List.getD_eq_getElem?_getD, List.getElem?_eq_getElem hi, List.getD_eq_getElem?_getD, List.getElem?_eq_getElem (show i < ps.length by omega)]
 exact this
theorem xss_len {rs : List RowM} {ps : List (Po (El p m mod))} (h : xss rs = ps.map (fun b => il b)) : rs.length = ps.length := by
 have hl := congrArg List.length h
 simpa only [xss_length, List.length_map] using hl
theorem xss_add {rs : List RowM} {ps : List (Po (El p m mod))} (h : xss rs = ps.map (fun b => il b)) (A : Option Addr) (c : Nat) (d : Po (El p m mod)) : xss (rs ++ [⟨A, c, il d⟩]) = (ps ++ [d]).map (fun b => il b) := by
 rw [xss_snoc, h, List.map_append]; rfl
theorem pol_one_c (x : Int) : (pol [x] : Po (El p m mod)) = Po.C (el x) := pol_one_k x
theorem all_el {q : Int} (hq : q = pw p m) (c : El p m mod) : ∃ s ∈ upI q.toNat, (el s : El p m mod) = c := by
 have hb := El.bd c
 refine ⟨c.1, List.mem_map.2 ⟨c.1.toNat, List.mem_range.2 (by omega), by omega⟩, el_of c⟩
end
def Al (A : Option Addr) (c : Nat) (l : List Int) (qs rs : List RowM) : Prop := qs = rs ∨ (qs = [] ∧ rs = [⟨A, c, l⟩])
theorem al_sub {A : Option Addr} {c : Nat} {l : List Int} {qs rs : List RowM} (h : Al A c l qs rs) (e : TypeId) (F : List Chunk) : CSub (rowsCh e qs :: ro A (ints l) :: F) (rowsR rs :: ro A (ints l) :: F) := by
 rcases h with rfl | ⟨rfl, rfl⟩
 ·exact rows_weak _
 ·exact (CSub.drop _ _).trans ((ro_dup F).trans (rowsR_one (r := ⟨A, c, l⟩) _))
theorem fac_split_ent : Enters Tryz.prog 47 := enters_of Tryz.func47 (by kernel_rfl) (by kernel_rfl)
theorem fac_split (g : GfM) {p m : Int} {mod : List Int} [hF : IsF p m mod] (hg : GOk g p m mod) (A : Option Addr) (c0 : Nat) (f : Po (El p m mod)) (hl : Po.lead f = 1) (h2 : 2 ≤ Po.len f) (h9 : Po.len f ≤ 257) (hs : Po.Sf f) :
  Pure Tryz.prog 47 #[.pointer (some g.p), .slice A (il f).length c0] [gfR g, ro A (ints (il f))] (two (fun v ca cb => ∃ B cap rs qs, ∃ ps : List (Po (El p m mod)), v = .slice B rs.length cap ∧ ca = ow B 22 cap (hdrs rs) ∧ cb = rowsCh 3 qs ∧ Al A c0 (il f) qs rs ∧ xss rs = ps.map (fun b => il b) ∧ IrL f ps ∧ prd ps = f ∧ rs.length ≤ 256)) := by
 have hq2 := hF.q2
 have hq9 := hF.out.1.1.q
 have hgq := hg.eq
 have hf0 : f ≠ 0 := lead1_ne hl
 have hilf := il_length f
 refine pure_of (args := [.pointer (some g.p), .slice A (il f).length c0]) 70 Tryz.func47 rfl rfl rfl fac_split_ent ⟨id, id, trivial⟩ (fun w0 => ?_)
 refine tS ?_
 refine tR fun _ _ _ => ?_
 refine eV (eBox rfl rfl rfl rfl rfl (fun p0 => ?_))
 refine pV ?_
 refine tS ?_
 refine tR fun _ _ _ => ?_
 refine sV (rLd0 rfl rfl) ?_
 refine pV ?_
 refine eV (eCall2 rfl rfl rfl (fac_fixed g hg A (il f).length c0 (Po.len f - 1) f (by omega) (by omega) (by omega) hl h9) ⟨rfl, rfl, trivial⟩ ?_)
 rintro _ _ _ ⟨B1, cap1, os, rfl, rfl, rfl, bs, hbs, hB, hol⟩
 refine pV ?_
 refine tS ?_
 have hbl := xss_len hbs
 refine tR fun _ _ _ => ?_
 refine pV ?_
 refine eV (eLit1 rfl rfl rfl rfl rfl (fun A2 => ?_))
 refine pV ?_
 rw [show [Value.slice A (il f).length c0] = hdrs [(⟨A, c0, il f⟩ : RowM)] from rfl]
 refine tS ?_
 refine tS ?_
 refine tR fun _ _ _ => ?_
 refine pV ?_
 refine sV (rLen rfl rfl) ?_
 refine pV ?_
 refine tB ?_
 refine tr_loop6 (fun (i : Int) (Bp : Option Addr) (cp : Nat) (rs : List RowM) (qs : List RowM) (ps : List (Po (El p m mod))) => [(2, .pointer (some p0)), (6, .slice Bp rs.length cp), (5, .slice B1 os.length cap1), (20, .slice B1 os.length cap1), (21, .int .i64 (os.length : Nat)), (22, .int .i64 i), (4, .slice none 0 0)]) (fun (i : Int) (Bp : Option Addr) (cp : Nat) (rs : List RowM) (qs : List RowM) (ps : List (Po (El p m mod))) => [ow Bp 22 cp (hdrs rs), rowsCh 3 qs, ow B1 22 cap1 (hdrs os), rowsCh 3 os, blk p0 45 [.pointer (some g.p)], gfR g, ro A (ints (il f))]) (fun (i : Int) (Bp : Option Addr) (cp : Nat) (rs : List RowM) (qs : List RowM) (ps : List (Po (El p m mod))) => (0 ≤ i ∧ i ≤ os.length) ∧ Al A c0 (il f) qs rs ∧ xss rs = ps.map (fun b => il b) ∧ SpB f bs i.toNat ps) (fun (i : Int) (Bp : Option Addr) (cp : Nat) (rs : List RowM) (qs : List RowM) (ps : List (Po (El p m mod))) => (os.length - i).toNat) (0) (A2) (1) ([⟨A, c0, il f⟩]) ([]) ([f]) ⟨rfl, rfl, rfl, rfl, rfl, rfl, rfl, trivial⟩ (by exact (rows_nil 3 _).trans (cs _ _)) (⟨⟨by omega, by omega⟩, .inr ⟨rfl, rfl⟩, rfl, SpB.start hl h2⟩) (fun i Bp cp rs qs ps hI => ?_)
 obtain ⟨⟨hi0, hi1⟩, hal, hxs, hS⟩ := hI
 have hpsl := xss_len hxs
 have hple := hS.pts.le
 refine tS ?_
 refine tR fun _ _ _ => ?_
 refine pV ?_
 refine tS ?_
 refine tC rfl (fun h4 => ?_) (fun h4 => ?_)
 ·try simp only [zbA] at h4
  refine tK ?_
  refine tS ?_
  refine tB ?_
  refine tS ?_
  haveI : InB i.toNat os.length := ⟨by omega⟩
  have hvx := xss_at hbs (show i.toNat < os.length by omega)
  have hvm := hB.sub _ (Vc.getD_eq_mem (show i.toNat < bs.length by omega) 0)
  have hvl := il_length (bs.getD i.toNat 0)
  have hvl2 := congrArg List.length hvx
  refine tR fun _ _ _ => ?_
  refine sV (rIdxR rfl rfl rfl (by omega) (by omega) (by omega)) ?_
  refine sV (rLdR rfl rfl (by omega)) ?_
  refine eV (eAlloc rfl rfl rfl (fun p5 => ?_))
  refine eV (eSt0 rfl rfl rfl rfl rfl rfl ?_)
  refine tS ?_
  refine tS ?_
  refine tR fun _ _ _ => ?_
  refine pV ?_
  refine sV (rLen rfl rfl) ?_
  refine pV ?_
  refine sV (rLen rfl rfl) ?_
  refine pV ?_
  refine tC rfl (fun h6 => ?_) (fun h6 => ?_)
  ·try simp only [zbA] at h6
   refine tE ?_
   refine tS ?_
   refine tR fun _ _ _ => ?_
   iterate 2 refine pV ?_
   have hIr := hS.done hl hs hB (by omega)
   exact tr_ret ⟨trivial, _, _, rfl, ⟨_, _, rfl, Bp, cp, rs, qs, ps, rfl, rfl, rfl, hal, hxs, hIr, hS.pts.prod, by omega⟩, cs _ _, trivial, trivial, trivial⟩
  ·try simp only [zbA] at h6
   refine tK ?_
   refine tS ?_
   refine tS ?_
   refine tR fun _ _ _ => ?_
   refine sV (rLd0 rfl rfl) ?_
   refine sV (rLen rfl rfl) ?_
   refine pV ?_
   refine tC rfl (fun h7 => ?_) (fun h7 => ?_)
   ·try simp only [zbA] at h7
    refine tE ?_
    refine tR fun _ _ _ => ?_
    refine sV (rAdd rfl rfl rfl (by omega) (by omega)) ?_
    refine pV ?_
    refine ⟨i + 1, Bp, cp, rs, qs, ps, ⟨rfl, rfl, rfl, rfl, rfl, rfl, rfl, trivial⟩, by first | exact cs _ _ | exact CSub.refl _, ?_⟩
    refine ⟨⟨⟨by omega, by omega⟩, hal, hxs, ?_⟩, by omega⟩
    rw [show (i + 1).toNat = i.toNat + 1 by omega]
    exact hS.skip (by omega) (by omega)
   ·try simp only [zbA] at h7
    refine tK ?_
    refine tS ?_
    refine tR fun _ _ _ => ?_
    refine eV (eAlloc rfl rfl rfl (fun p8 => ?_))
    refine tS ?_
    refine tS ?_
    refine tr_chunks [rowsR rs, ro A (ints (il f)), ow Bp 22 cp (hdrs rs), blk p8 25 [.slice none 0 0], blk p5 22 [.slice (os.getD i.toNat rowD).A (os.getD i.toNat rowD).xs.length (os.getD i.toNat rowD).cap], ow B1 22 cap1 (hdrs os), rowsCh 3 os, blk p0 45 [.pointer (some g.p)], gfR g] ((cs _ [rowsCh 3 qs, ro A (ints (il f)), ow Bp 22 cp (hdrs rs), blk p8 25 [.slice none 0 0], blk p5 22 [.slice (os.getD i.toNat rowD).A (os.getD i.toNat rowD).xs.length (os.getD i.toNat rowD).cap], ow B1 22 cap1 (hdrs os), rowsCh 3 os, blk p0 45 [.pointer (some g.p)], gfR g]).trans (al_sub hal 3 _)) ?_
    refine tR fun _ _ _ => ?_
    refine pV ?_
    refine sV (rLen rfl rfl) ?_
    refine pV ?_
    refine tB ?_
    refine tr_nilR 22 3 ?_
    refine tr_loop5 (fun (k : Int) (Bn : Option Addr) (cn : Nat) (ns : List RowM) (nps : List (Po (El p m mod))) => [(2, .pointer (some p0)), (8, .pointer (some p5)), (9, .pointer (some p8)), (34, .slice Bp rs.length cp), (35, .int .i64 (rs.length : Nat)), (36, .int .i64 k), (4, .slice none 0 0), (5, .slice B1 os.length cap1), (6, .slice Bp rs.length cp), (20, .slice B1 os.length cap1), (21, .int .i64 (os.length : Nat)), (22, .int .i64 i), (26, .slice Bp rs.length cp), (27, .int .i64 rs.length), (28, .slice B1 os.length cap1), (29, .int .i64 os.length)]) (fun (k : Int) (Bn : Option Addr) (cn : Nat) (ns : List RowM) (nps : List (Po (El p m mod))) => [blk p8 25 [.slice Bn ns.length cn], ow Bn 22 cn (hdrs ns), rowsCh 3 ns, rowsR rs, ow Bp 22 cp (hdrs rs), blk p5 22 [.slice (os.getD i.toNat rowD).A (os.getD i.toNat rowD).xs.length (os.getD i.toNat rowD).cap], ow B1 22 cap1 (hdrs os), rowsCh 3 os, blk p0 45 [.pointer (some g.p)], gfR g, ro A (ints (il f))]) (fun (k : Int) (Bn : Option Addr) (cn : Nat) (ns : List RowM) (nps : List (Po (El p m mod))) => (0 ≤ k ∧ k ≤ rs.length) ∧ xss ns = nps.map (fun b => il b) ∧ SpP bs (bs.getD i.toNat 0) ps k.toNat nps) (fun (k : Int) (Bn : Option Addr) (cn : Nat) (ns : List RowM) (nps : List (Po (El p m mod))) => (rs.length - k).toNat) (0) (none) (0) ([]) ([]) ⟨rfl, rfl, rfl, rfl, rfl, rfl, rfl, rfl, rfl, rfl, rfl, rfl, rfl, rfl, rfl, rfl, trivial⟩ (by first | exact cs _ _ | exact CSub.refl _) (⟨⟨by omega, by omega⟩, rfl, SpP.start⟩) (fun k Bn cn ns nps hI => ?_)
    obtain ⟨⟨hk0, hk1⟩, hxn, hP⟩ := hI
    refine tS ?_
    refine tR fun _ _ _ => ?_
    refine pV ?_
    refine tS ?_
    refine tC rfl (fun h10 => ?_) (fun h10 => ?_)
    ·try simp only [zbA] at h10
     refine tK ?_
     refine tS ?_
     refine tB ?_
     refine tS ?_
     haveI : InB k.toNat rs.length := ⟨by omega⟩
     have hpx := xss_at hxs (show k.toNat < rs.length by omega)
     have hpm := Vc.getD_eq_mem (show k.toNat < ps.length by omega) (0 : Po (El p m mod))
     have hpe := hS.pts.each _ hpm
     have hpd := hS.pts.dvd hpm
     have hpl := Po.dvd_len hpd hf0
     have hg0 := lead1_ne hpe.1
     have hpl2 := il_length (ps.getD k.toNat 0)
     refine tR fun _ _ _ => ?_
     refine sV (rIdxR rfl rfl rfl (by omega) (by omega) (by omega)) ?_
     refine sV (rLdR rfl rfl (by omega)) ?_
     refine pV ?_
     refine tS ?_
     rw [hpx]
     refine tR fun _ _ _ => ?_
     refine pV ?_
     refine eV (eAlloc rfl rfl rfl (fun p12 => ?_))
     refine eV (eSt0 rfl rfl rfl rfl rfl rfl ?_)
     refine tr_chunks [ro (rs.getD k.toNat rowD).A (ints (il (ps.getD k.toNat 0))), blk p12 22 [.slice (rs.getD k.toNat rowD).A (il (ps.getD k.toNat 0)).length (rs.getD k.toNat rowD).cap], blk p8 25 [.slice Bn ns.length cn], ow Bn 22 cn (hdrs ns), rowsCh 3 ns, rowsR rs, ow Bp 22 cp (hdrs rs), blk p5 22 [.slice (os.getD i.toNat rowD).A (os.getD i.toNat rowD).xs.length (os.getD i.toNat rowD).cap], ow B1 22 cap1 (hdrs os), rowsCh 3 os, blk p0 45 [.pointer (some g.p)], gfR g, ro A (ints (il f))] (hpx ▸ (cs _ [rowsR rs, blk p12 22 [.slice (rs.getD k.toNat rowD).A (rs.getD k.toNat rowD).xs.length (rs.getD k.toNat rowD).cap], blk p8 25 [.slice Bn ns.length cn], ow Bn 22 cn (hdrs ns), rowsCh 3 ns, ow Bp 22 cp (hdrs rs), blk p5 22 [.slice (os.getD i.toNat rowD).A (os.getD i.toNat rowD).xs.length (os.getD i.toNat rowD).cap], ow B1 22 cap1 (hdrs os), rowsCh 3 os, blk p0 45 [.pointer (some g.p)], gfR g, ro A (ints (il f))]).trans ((row_ro (getD_mem (show k.toNat < rs.length by omega) rowD) _).trans (cs _ _))) ?_
     refine tS ?_
     refine tR fun _ _ _ => ?_
     refine sV (rLd0 rfl rfl) ?_
     refine eV (eCall1 rfl rfl rfl (gf_Elements _) ⟨rfl, trivial⟩ ?_)
     rintro _ _ ⟨B13, rfl, rfl⟩
     refine tB ?_
     refine tr_range (hseq := elems_gives (by omega) (by omega)) rfl gf_Elements1_ent rfl rfl rfl rfl rfl (fun (q : (Option Addr) × Nat × (List RowM) × (List (Po (El p m mod))) × (Option Addr) × Nat × (Po (El p m mod))) => match q with | (Bn, cn, ms, ds, Br, cr, rest) => [blk p12 22 [.slice Br (il rest).length cr], ro Br (ints (il rest)), blk p8 25 [.slice Bn ms.length cn], ow Bn 22 cn (hdrs ms), rowsCh 3 ms, rowsR rs, ow Bp 22 cp (hdrs rs), blk B13 45 [.pointer (some g.p)], blk p5 22 [.slice (os.getD i.toNat rowD).A (os.getD i.toNat rowD).xs.length (os.getD i.toNat rowD).cap], ow B1 22 cap1 (hdrs os), rowsCh 3 os, blk p0 45 [.pointer (some g.p)], gfR g, ro A (ints (il f))]) (fun (pre : List Int) (q : (Option Addr) × Nat × (List RowM) × (List (Po (El p m mod))) × (Option Addr) × Nat × (Po (El p m mod))) => match q with | (Bn, cn, ms, ds, Br, cr, rest) => xss ms = (nps ++ ds).map (fun b => il b) ∧ SpE (bs.getD i.toNat 0) (ps.getD k.toNat 0) pre ds rest ∧ 2 ≤ Po.len rest) (Bn, cn, ns, [], (rs.getD k.toNat rowD).A, (rs.getD k.toNat rowD).cap, (ps.getD k.toNat 0)) (by first | exact cs _ _ | exact CSub.refl _) (⟨by rw [List.append_nil]; exact hxn, SpE.start hpe.1, hpe.2⟩) ?_ ?_
     ·rintro pre x ⟨Bn, cn, ms, ds, Br, cr, rest⟩ l M0 W0 hlen hI
      obtain ⟨hx, hE, hr2⟩ := hI
      refine tB ?_
      refine tS ?_
      have hpv : (pol (os.getD i.toNat rowD).xs : Po (El p m mod)) = (bs.getD i.toNat 0) := by rw [hvx, pol_il]
      have hrl := il_length rest
      have hEl := hE.le hg0
      have hx1 := il_length (pol (os.getD i.toNat rowD).xs - pol [x] : Po (El p m mod))
      have hx2 := Po.len_sub (pol (os.getD i.toNat rowD).xs) (pol [x] : Po (El p m mod))
      have hx3 := Po.len_le (pol_sh (p := p) (m := m) (mod := mod) (os.getD i.toNat rowD).xs)
      have hx4 := Po.len_le (pol_sh (p := p) (m := m) (mod := mod) [x])
      have hx5 : [x].length = 1 := rfl
      refine tr_draw [0, 1, 2, 3, 4, 5, 6, 7, 8] [] mixed (by kernel_rfl) fun _ _ _ => ?_
      refine sV (rLd0 rfl rfl) ?_
      refine sV (rLd0 rfl rfl) ?_
      refine sV (rLd0 rfl rfl) ?_
      refine sV (rLd0 rfl rfl) ?_
      refine pV ?_
      refine eV (eLit1I rfl rfl rfl rfl (fun A15 => ?_))
      refine eV (eCall1 rfl rfl rfl (poly_Sub g hg (os.getD i.toNat rowD).A _ (os.getD i.toNat rowD).cap (os.getD i.toNat rowD).xs rfl (by omega) A15 1 1 [x] rfl (by simp)) ⟨rfl, rfl, rfl, trivial⟩ ?_)
      rintro _ _ ⟨Bs, cs_, rfl, rfl⟩
      refine eV (eCall1 rfl rfl rfl (poly_Gcd g hg Br _ cr (il rest) rfl (by omega) Bs _ cs_ (il (pol (os.getD i.toNat rowD).xs - pol [x])) rfl (by omega) (.inl (by rw [pol_il]; exact hE.ne))) ⟨rfl, rfl, rfl, trivial⟩ ?_)
      rintro _ _ ⟨Bd, cd, rfl, rfl⟩
      refine pV ?_
      rw [pol_il, pol_il, hpv, pol_one_c]
      have hdl := il_length (Po.gcd rest ((bs.getD i.toNat 0) - Po.C (el x)))
      have hdl2 := hE.gcd_le ((bs.getD i.toNat 0) - Po.C (el x))
      refine tS ?_
      refine tS ?_
      refine tR fun _ _ _ => ?_
      refine pV ?_
      refine sV (rLen rfl rfl) ?_
      refine pV ?_
      refine tC rfl (fun h16 => ?_) (fun h16 => ?_)
      ·try simp only [zbA] at h16
       refine tS ?_
       have hms := xss_len hx
       rw [List.length_append] at hms
       have hPl := hP.le hS.pts hf0
       have hyes := hE.yes (hs.of_dvd hpd) x (by omega)
       refine tR fun _ _ _ => ?_
       refine sV (rLd0 rfl rfl) ?_
       refine pV ?_
       refine eV (eLit1 rfl rfl rfl rfl rfl (fun A17 => ?_))
       refine eV (eAppR rfl rfl rfl rfl rfl (by first | rfl | simp | omega) (by omega) (fun A17a c17a => ?_))
       refine eV (eSt0 rfl rfl rfl rfl rfl rfl ?_)
       refine tR fun _ _ _ => ?_
       refine sV (rLd0 rfl rfl) ?_
       refine sV (rLd0 rfl rfl) ?_
       refine pV ?_
       refine eV (eCall1 rfl rfl rfl (fac_quo g hg Br _ cr (il rest) rfl (by omega) Bd _ cd (il (Po.gcd rest ((bs.getD i.toNat 0) - Po.C (el x)))) rfl (by omega) (by rw [pol_il]; exact hE.ne2 _)) ⟨rfl, rfl, rfl, trivial⟩ ?_)
       rintro _ _ ⟨Bq, cq, rfl, rfl⟩
       refine eV (eSt0 rfl rfl rfl rfl rfl rfl ?_)
       rw [pol_il, pol_il]
       have hql := il_length (Po.quo rest (Po.gcd rest ((bs.getD i.toNat 0) - Po.C (el x))))
       refine tr_chunks [blk p12 22 [.slice Bq (il (Po.quo rest (Po.gcd rest ((bs.getD i.toNat 0) - Po.C (el x))))).length cq], ro Bq (ints (il (Po.quo rest (Po.gcd rest ((bs.getD i.toNat 0) - Po.C (el x)))))), blk p8 25 [.slice A17a (ms ++ [(⟨Bd, cd, il (Po.gcd rest ((bs.getD i.toNat 0) - Po.C (el x)))⟩ : RowM)]).length c17a], ow A17a 22 c17a (hdrs (ms ++ [(⟨Bd, cd, il (Po.gcd rest ((bs.getD i.toNat 0) - Po.C (el x)))⟩ : RowM)])), rowsCh 3 (ms ++ [(⟨Bd, cd, il (Po.gcd rest ((bs.getD i.toNat 0) - Po.C (el x)))⟩ : RowM)]), rowsR rs, ow Bp 22 cp (hdrs rs), blk B13 45 [.pointer (some g.p)], blk p5 22 [.slice (os.getD i.toNat rowD).A (os.getD i.toNat rowD).xs.length (os.getD i.toNat rowD).cap], ow B1 22 cap1 (hdrs os), rowsCh 3 os, blk p0 45 [.pointer (some g.p)], gfR g, ro A (ints (il f))] ((cs _ [rowsCh 3 ms, ow Bd 3 cd (ints (il (Po.gcd rest ((bs.getD i.toNat 0) - Po.C (el x))))), ow Bq 3 cq (ints (il (Po.quo rest (Po.gcd rest ((bs.getD i.toNat 0) - Po.C (el x)))))), blk p12 22 [.slice Bq (il (Po.quo rest (Po.gcd rest ((bs.getD i.toNat 0) - Po.C (el x))))).length cq], blk p8 25 [.slice A17a (ms ++ [(⟨Bd, cd, il (Po.gcd rest ((bs.getD i.toNat 0) - Po.C (el x)))⟩ : RowM)]).length c17a], ow A17a 22 c17a (hdrs (ms ++ [(⟨Bd, cd, il (Po.gcd rest ((bs.getD i.toNat 0) - Po.C (el x)))⟩ : RowM)])), rowsR rs, ow Bp 22 cp (hdrs rs), blk B13 45 [.pointer (some g.p)], blk p5 22 [.slice (os.getD i.toNat rowD).A (os.getD i.toNat rowD).xs.length (os.getD i.toNat rowD).cap], ow B1 22 cap1 (hdrs os), rowsCh 3 os, blk p0 45 [.pointer (some g.p)], gfR g, ro A (ints (il f))]).trans ((rows_snoc (r := ⟨Bd, cd, il (Po.gcd rest ((bs.getD i.toNat 0) - Po.C (el x)))⟩) _).trans ((CSub.cons _ (ow_ro _)).trans (cs _ _)))) ?_
       refine tS ?_
       refine tR fun _ _ _ => ?_
       refine sV (rLd0 rfl rfl) ?_
       refine sV (rLen rfl rfl) ?_
       refine pV ?_
       refine tC rfl (fun h19 => ?_) (fun h19 => ?_)
       ·try simp only [zbA] at h19
        refine tE ?_
        intro hpre
        refine tR fun _ _ _ => ?_
        refine sV (rAdd rfl rfl rfl (by omega) (by omega)) ?_
        refine pV ?_
        refine ⟨k + 1, A17a, c17a, ms ++ [⟨Bd, cd, il (Po.gcd rest ((bs.getD i.toNat 0) - Po.C (el x)))⟩], nps ++ (ds ++ [(Po.gcd rest ((bs.getD i.toNat 0) - Po.C (el x)))]), ⟨rfl, rfl, rfl, rfl, rfl, rfl, rfl, rfl, rfl, rfl, rfl, rfl, rfl, rfl, rfl, rfl, trivial⟩, by first | exact cs _ _ | exact CSub.refl _, ?_⟩
        refine ⟨⟨⟨by omega, by omega⟩, by rw [← List.append_assoc]; exact xss_add hx _ _ _, ?_⟩, by omega⟩
        rw [show (k + 1).toNat = k.toNat + 1 by omega]
        exact hP.next (by omega) hyes.each (hyes.end1 (by omega))
       ·try simp only [zbA] at h19
        refine tK ?_
        refine ⟨(A17a, c17a, ms ++ [⟨Bd, cd, il (Po.gcd rest ((bs.getD i.toNat 0) - Po.C (el x)))⟩], ds ++ [(Po.gcd rest ((bs.getD i.toNat 0) - Po.C (el x)))], Bq, cq, Po.quo rest (Po.gcd rest ((bs.getD i.toNat 0) - Po.C (el x)))), by first | exact cs _ _ | exact CSub.refl _, ?_⟩
        exact ⟨by rw [← List.append_assoc]; exact xss_add hx _ _ _, hyes, by omega⟩
      ·try simp only [zbA] at h16
       refine tK ?_
       refine tS ?_
       refine tR fun _ _ _ => ?_
       refine sV (rLd0 rfl rfl) ?_
       refine sV (rLen rfl rfl) ?_
       refine pV ?_
       refine tC rfl (fun h19 => ?_) (fun h19 => ?_)
       ·try simp only [zbA] at h19
        refine tE ?_
        intro hpre
        refine tR fun _ _ _ => ?_
        refine sV (rAdd rfl rfl rfl (by omega) (by omega)) ?_
        refine pV ?_
        refine ⟨k + 1, Bn, cn, ms, nps ++ ds, ⟨rfl, rfl, rfl, rfl, rfl, rfl, rfl, rfl, rfl, rfl, rfl, rfl, rfl, rfl, rfl, rfl, trivial⟩, by first | exact cs _ _ | exact CSub.refl _, ?_⟩
        omega
       ·try simp only [zbA] at h19
        refine tK ?_
        refine ⟨(Bn, cn, ms, ds, Br, cr, rest), by first | exact cs _ _ | exact CSub.refl _, ?_⟩
        exact ⟨hx, hE.no' x (by omega), hr2⟩
     ·rintro ⟨Bn, cn, ms, ds, Br, cr, rest⟩ hI
      obtain ⟨hx, hE, hr2⟩ := hI
      refine tR fun _ _ _ => ?_
      refine sV (rAdd rfl rfl rfl (by omega) (by omega)) ?_
      refine pV ?_
      refine ⟨k + 1, Bn, cn, ms, nps ++ ds, ⟨rfl, rfl, rfl, rfl, rfl, rfl, rfl, rfl, rfl, rfl, rfl, rfl, rfl, rfl, rfl, rfl, trivial⟩, by first | exact cs _ _ | exact CSub.refl _, ?_⟩
      refine ⟨⟨⟨by omega, by omega⟩, hx, ?_⟩, by omega⟩
      rw [show (k + 1).toNat = k.toNat + 1 by omega]
      exact hP.next (by omega) hE.each (hE.end2 hvm.2 hpd (all_el hgq))
    ·try simp only [zbA] at h10
     refine tE ?_
     refine tR fun _ _ _ => ?_
     refine sV (rLd0 rfl rfl) ?_
     refine pV ?_
     refine tR fun _ _ _ => ?_
     refine sV (rAdd rfl rfl rfl (by omega) (by omega)) ?_
     refine pV ?_
     refine ⟨i + 1, Bn, cn, ns, ns, nps, ⟨rfl, rfl, rfl, rfl, rfl, rfl, rfl, trivial⟩, by first | exact cs _ _ | exact CSub.refl _, ?_⟩
     refine ⟨⟨⟨by omega, by omega⟩, .inl rfl, hxn, ?_⟩, by omega⟩
     rw [show (i + 1).toNat = i.toNat + 1 by omega]
     exact hS.next (by omega) (by rw [show ps.length = k.toNat by omega]; exact hP)
 ·try simp only [zbA] at h4
  refine tE ?_
  refine tS ?_
  refine tR fun _ _ _ => ?_
  iterate 2 refine pV ?_
  have hIr := hS.done hl hs hB (by omega)
  exact tr_ret ⟨trivial, _, _, rfl, ⟨_, _, rfl, Bp, cp, rs, qs, ps, rfl, rfl, rfl, hal, hxs, hIr, hS.pts.prod, by omega⟩, cs _ _, trivial, trivial, trivial⟩
end Go.Proofs.YtdkahdehodopoaaGreat

namespace Go.Proofs.YtdkahdehodopoaaGreat
open Go.RowKit
theorem cmpN_lt (a b : List Int) : ∀ n, cmpN a b n < 0 ↔ ∃ i, i < n ∧ a.getD i 0 < b.getD i 0 ∧ ∀ k, i < k → k < n → a.getD k 0 = b.getD k 0
 | 0 => ⟨fun h => by simp [cmpN] at h, fun ⟨i, h, _⟩ => by omega⟩
 | n + 1 => by
  have ih := cmpN_lt a b n
  simp only [cmpN]
  split
  ·rename_i h
   exact ⟨fun _ => ⟨n, by omega, h, fun k h1 h2 => by omega⟩, fun _ => by omega⟩
  ·rename_i h
   split
   ·rename_i h2
    refine ⟨fun h => by omega, fun ⟨i, h3, h4, h5⟩ => ?_⟩
    rcases Nat.lt_or_ge i n with e | e
    ·have := h5 n e (by omega)
     omega
    ·have : i = n := by omega
     subst this; omega
   ·rename_i h2
    rw [ih]
    constructor
    ·rintro ⟨i, h3, h4, h5⟩
     refine ⟨i, by omega, h4, fun k h6 h7 => ?_⟩
     rcases Nat.lt_or_ge k n with e | e
     ·exact h5 k h6 e
     ·have : k = n := by omega
      subst this; omega
    ·rintro ⟨i, h3, h4, h5⟩
     rcases Nat.lt_or_ge i n with e | e
     ·exact ⟨i, e, h4, fun k h6 h7 => h5 k h6 (by omega)⟩
     ·have : i = n := by omega
      subst this; omega
theorem cmpN_eq (a b : List Int) : ∀ n, cmpN a b n = 0 ↔ ∀ i, i < n → a.getD i 0 = b.getD i 0
 | 0 => ⟨fun _ i h => by omega, fun _ => rfl⟩
 | n + 1 => by
  have ih := cmpN_eq a b n
  simp only [cmpN]
  split
  ·rename_i h
   exact ⟨fun e => by omega, fun e => by have := e n (by omega); omega⟩
  ·split
   ·rename_i h
    exact ⟨fun e => by omega, fun e => by have := e n (by omega); omega⟩
   ·rw [ih]
    refine ⟨fun e i hi => ?_, fun e i hi => e i (by omega)⟩
    rcases Nat.lt_or_ge i n with h | h
    ·exact e i h
    ·have : i = n := by omega
     subst this; omega
theorem cmpL_eq (a b : List Int) : cmpL a b = 0 ↔ a = b := by
 constructor
 ·intro h
  unfold cmpL at h
  split at h
  ·omega
  ·split at h
   ·omega
   ·exact ext_getD (by omega) fun j => by
     have := (cmpN_eq a b a.length).1 h
     rcases Nat.lt_or_ge j a.length with e | e
     ·exact this j e
     ·rw [getD_out e, getD_out (by omega)]
 ·rintro rfl
  unfold cmpL
  rw [if_neg (by omega), if_neg (by omega)]
  exact (cmpN_eq a a a.length).2 fun i _ => rfl
theorem cmpL_lt (a b : List Int) : cmpL a b < 0 ↔ a.length < b.length ∨ (a.length = b.length ∧ ∃ i, i < a.length ∧ a.getD i 0 < b.getD i 0 ∧ ∀ k, i < k → k < a.length → a.getD k 0 = b.getD k 0) := by
 unfold cmpL
 split
 ·rename_i h; exact ⟨fun _ => .inl h, fun _ => by omega⟩
 ·split
  ·rename_i h; exact ⟨fun h => by omega, fun h => by omega⟩
  ·rename_i h1 h2
   rw [cmpN_lt]
   exact ⟨fun h => .inr ⟨by omega, h⟩, fun h => h.elim (fun h => absurd h h1) (fun h => h.2)⟩
theorem cmpL_trans {a b c : List Int} (h : cmpL a b < 0) (k : cmpL b c < 0) : cmpL a c < 0 := by
 rw [cmpL_lt] at *
 rcases h with h | ⟨h, i, h1, h2, h3⟩
 ·rcases k with k | ⟨k, _⟩
  ·exact .inl (by omega)
  ·exact .inl (by omega)
 ·rcases k with k | ⟨k, j, k1, k2, k3⟩
  ·exact .inl (by omega)
  ·refine .inr ⟨by omega, ?_⟩
   rcases Nat.lt_trichotomy i j with e | e | e
   ·exact ⟨j, by omega, by rw [h3 j e (by omega)]; exact k2, fun t t1 t2 => by rw [h3 t (by omega) t2]; exact k3 t t1 (by omega)⟩
   ·subst e
    exact ⟨i, h1, by omega, fun t t1 t2 => by rw [h3 t t1 t2]; exact k3 t t1 (by omega)⟩
   ·exact ⟨i, h1, by rw [← k3 i e (by omega)]; exact h2, fun t t1 t2 => by rw [h3 t t1 t2]; exact k3 t (by omega) (by omega)⟩
theorem cmpL_irr (a : List Int) : ¬ cmpL a a < 0 := by rw [(cmpL_eq a a).2 rfl]; omega
theorem cmpL_not {a b : List Int} : ¬ cmpL a b < 0 ↔ a = b ∨ cmpL b a < 0 := by
 have h1 := cmpL_neg a b
 have h2 := cmpL_eq a b
 constructor
 ·intro h
  by_cases e : cmpL a b = 0
  ·exact .inl (h2.1 e)
  ·exact .inr (by omega)
 ·rintro (rfl | h)
  ·exact cmpL_irr a
  ·omega
theorem cmpL_ntr {a b c : List Int} (h : ¬ cmpL a b < 0) (k : ¬ cmpL b c < 0) : ¬ cmpL a c < 0 := by
 rw [cmpL_not] at *
 rcases h with rfl | h
 ·exact k
 ·rcases k with rfl | k
  ·exact .inr h
  ·exact .inr (cmpL_trans k h)
theorem rise_eq {α : Type} {lt : α → α → Prop} (hirr : ∀ a, ¬ lt a a) (htr : ∀ a b c, lt a b → lt b c → lt a c) : ∀ {l k : List α}, l.Pairwise lt → k.Pairwise lt → (∀ x, x ∈ l ↔ x ∈ k) → l = k
 | [], [], _, _, _ => rfl
 | [], b :: k, _, _, h => absurd ((h b).2 (List.mem_cons_self ..)) (by simp)
 | a :: l, [], _, _, h => absurd ((h a).1 (List.mem_cons_self ..)) (by simp)
 | a :: l, b :: k, hl, hk, h => by
  have h1 := List.pairwise_cons.1 hl
  have h2 := List.pairwise_cons.1 hk
  have hab : a = b := by
   rcases List.mem_cons.1 ((h a).1 (List.mem_cons_self ..)) with e | e
   ·exact e
   ·rcases List.mem_cons.1 ((h b).2 (List.mem_cons_self ..)) with e2 | e2
    ·exact e2.symm
    ·exact absurd (htr _ _ _ (h2.1 a e) (h1.1 b e2)) (hirr b)
  subst hab
  have := rise_eq hirr htr h1.2 h2.2 fun x => by
   constructor
   ·intro hx
    rcases List.mem_cons.1 ((h x).1 (List.mem_cons_of_mem _ hx)) with e | e
    ·subst e; exact absurd (h1.1 x hx) (hirr x)
    ·exact e
   ·intro hx
    rcases List.mem_cons.1 ((h x).2 (List.mem_cons_of_mem _ hx)) with e | e
    ·subst e; exact absurd (h2.1 x hx) (hirr x)
    ·exact e
  rw [this]
def fpr (gs : List FacM) : List (List Int × Int) := gs.map fun e => (e.r.xs, e.k)
@[simp] theorem fpr_length (gs : List FacM) : (fpr gs).length = gs.length := by simp [fpr]
theorem fpr_app (gs hs : List FacM) : fpr (gs ++ hs) = fpr gs ++ fpr hs := by simp [fpr]
section
variable {p m : Int} {mod : List Int} [hF : IsF p m mod]
open Po
structure CmI (f : Po (El p m mod)) (gs : List FacM) : Prop where
 each : ∀ e ∈ gs, ∃ P : Po (El p m mod), e.r.xs = il P ∧ Ir P ∧ lead P = 1 ∧ P ∣ f ∧ e.k = ((mu P f : Nat) : Int)
 all : ∀ P : Po (El p m mod), Ir P → lead P = 1 → P ∣ f → ∃ e ∈ gs, e.r.xs = il P
 nd : (gs.map fun e => e.r.xs).Nodup
def RisF (gs : List FacM) : Prop := gs.Pairwise fun x y => cmpL x.r.xs y.r.xs < 0
theorem CmI.perm {f : Po (El p m mod)} {gs hs : List FacM} (h : CmI f gs) (hp : hs.Perm gs) : CmI f hs :=
 ⟨fun e he => h.each e (hp.mem_iff.1 he), fun P a b c => by
  obtain ⟨e, he, hx⟩ := h.all P a b c
  exact ⟨e, hp.mem_iff.2 he, hx⟩, (hp.map fun e => e.r.xs).nodup_iff.2 h.nd⟩
theorem CmI.rise {f : Po (El p m mod)} {gs : List FacM} (h : CmI f gs) (hs : gs.Pairwise fun x y => ¬ cmpL y.r.xs x.r.xs < 0) : RisF gs := by
 have h1 := List.pairwise_map.1 h.nd
 refine (hs.and h1).imp fun {x y} h => ?_
 rcases cmpL_not.1 h.1 with e | e
 ·exact absurd e.symm h.2
 ·exact e
theorem CmI.fc {f : Po (El p m mod)} {gs : List FacM} (h : CmI f gs) (hf : f ≠ 0) {e : FacM} (he : e ∈ gs) : Ir (fcP p m mod e) ∧ lead (fcP p m mod e) = 1 ∧ fcP p m mod e ∣ f ∧ e.r.xs = il (fcP p m mod e) ∧ e.k = ((mu (fcP p m mod e) f : Nat) : Int) ∧ 1 ≤ e.k := by
 obtain ⟨P, h1, h2, h3, h4, h5⟩ := h.each e he
 have eP : fcP p m mod e = P := by unfold fcP; rw [h1, pol_il]
 rw [eP]
 have := (mu_pos h2 hf).1 h4
 exact ⟨h2, h3, h4, h1, h5, by omega⟩
theorem CmI.uniq {f : Po (El p m mod)} (hf : f ≠ 0) {gs hs : List FacM} (h : CmI f gs) (k : CmI f hs) (hg : RisF gs) (hh : RisF hs) : fpr gs = fpr hs := by
 have hmem : ∀ {gs hs : List FacM}, CmI f gs → CmI f hs → ∀ x, x ∈ fpr gs → x ∈ fpr hs := fun {gs hs} h k x hx => by
  obtain ⟨e, he, rfl⟩ := List.mem_map.1 hx
  obtain ⟨h1, h2, h3, h4, h5, _⟩ := h.fc hf he
  obtain ⟨e', he', hx'⟩ := k.all _ h1 h2 h3
  obtain ⟨_, _, _, k4, k5, _⟩ := k.fc hf he'
  have : fcP p m mod e' = fcP p m mod e := by unfold fcP; rw [hx', pol_il]; rfl
  refine List.mem_map.2 ⟨e', he', ?_⟩
  rw [hx', h4, k5, h5, this]
 exact rise_eq (lt := fun (x y : List Int × Int) => cmpL x.1 y.1 < 0) (fun a => cmpL_irr _) (fun a b c => cmpL_trans) (List.pairwise_map.2 hg) (List.pairwise_map.2 hh) fun x => ⟨hmem h k x, hmem k h x⟩
structure CmJ (f : Po (El p m mod)) (fs : List FacM) (j : Nat) (Ls : List (Po (El p m mod) × Int)) : Prop where
 each : ∀ x ∈ Ls, Ir x.1 ∧ lead x.1 = 1 ∧ x.1 ∣ f ∧ x.2 = ((mu x.1 f : Nat) : Int) ∧ ∃ e ∈ fs.take j, e.k = x.2
 all : ∀ e ∈ fs.take j, ∀ P : Po (El p m mod), Ir P → lead P = 1 → mu P f = e.k.toNat → ∃ x ∈ Ls, x.1 = P
 nd : (Ls.map (·.1)).Nodup
variable {f : Po (El p m mod)} {fs : List FacM} {j : Nat} {Ls : List (Po (El p m mod) × Int)}
theorem CmJ.start : CmJ f fs 0 [] := ⟨fun x h => by simp at h, fun e h => by simp at h, .nil⟩
theorem CmJ.next (h : CmJ f fs j Ls) (hf : f ≠ 0) (hq : SqI f 1 (fun _ => True) fs) (hj : j < fs.length) {ps : List (Po (El p m mod))} (hI : IrL (fcP p m mod (fs.getD j facD)) ps) : CmJ f fs (j + 1) (Ls ++ ps.map fun P => (P, (fs.getD j facD).k)) := by
 have hm := getD_mem hj facD
 obtain ⟨_, h0, _, h1, _, h2, _⟩ := hq.fc _ hm
 have htk : fs.take (j + 1) = fs.take j ++ [fs.getD j facD] := take_getD hj facD
 have hne : ∀ e ∈ fs.take j, e.k ≠ (fs.getD j facD).k := fun e he hk => by
  have h3 := hq.nd
  rw [← List.take_append_drop (j + 1) fs, htk, List.map_append, List.map_append] at h3
  have h4 := (List.nodup_append.1 h3).1
  exact (List.nodup_append.1 h4).2.2 _ (List.mem_map.2 ⟨e, he, rfl⟩) _ (by simp) hk
 have hps : ∀ P ∈ ps, Ir P ∧ lead P = 1 ∧ P ∣ f ∧ mu P f = (fs.getD j facD).k.toNat := fun P hP => by
  obtain ⟨a, b, c⟩ := (hI.mem P).1 hP
  have := (h2 P a b).1 c
  exact ⟨a, b, (mu_pos a hf).2 (by omega), this⟩
 refine ⟨fun x hx => ?_, fun e he P a b c => ?_, ?_⟩
 ·rcases List.mem_append.1 hx with hx | hx
  ·obtain ⟨a, b, c, d, e, he, hk⟩ := h.each x hx
   exact ⟨a, b, c, d, e, by rw [htk]; exact List.mem_append_left _ he, hk⟩
  ·obtain ⟨P, hP, rfl⟩ := List.mem_map.1 hx
   obtain ⟨a, b, c, d⟩ := hps P hP
   exact ⟨a, b, c, by show (fs.getD j facD).k = _; rw [d]; omega, _, by rw [htk]; exact List.mem_append_right _ (List.mem_singleton.2 rfl), rfl⟩
 ·rw [htk] at he
  rcases List.mem_append.1 he with he | he
  ·obtain ⟨x, hx, e⟩ := h.all e he P a b c
   exact ⟨x, List.mem_append_left _ hx, e⟩
  ·rw [List.mem_singleton] at he
   subst he
   exact ⟨(P, _), List.mem_append_right _ (List.mem_map.2 ⟨P, (hI.mem P).2 ⟨a, b, (h2 P a b).2 c⟩, rfl⟩), rfl⟩
 ·rw [List.map_append, List.nodup_append]
  refine ⟨h.nd, ?_, fun P hP Q hQ e => ?_⟩
  ·rw [List.map_map]
   have : (ps.map ((fun x : Po (El p m mod) × Int => x.1) ∘ fun P => (P, (fs.getD j facD).k))) = ps := by
    conv => rhs; rw [← List.map_id ps]
    rfl
   rw [this]; exact hI.nd
  ·obtain ⟨x, hx, rfl⟩ := List.mem_map.1 hP
   rw [List.map_map] at hQ
   obtain ⟨R, hR, rfl⟩ := List.mem_map.1 hQ
   obtain ⟨_, _, _, d, e', he', hk⟩ := h.each x hx
   have d2 := (hps R hR).2.2.2
   have e3 : x.1 = R := e
   rw [← e3] at d2
   refine hne e' he' ?_
   rw [hk, d, d2]
   omega
theorem CmJ.done (h : CmJ f fs fs.length Ls) (hf : f ≠ 0) (hq : SqI f 1 (fun _ => True) fs) {gs : List FacM} (hg : fpr gs = Ls.map fun x => (il x.1, x.2)) : CmI f gs := by
 have hmem : ∀ e ∈ gs, ∃ x ∈ Ls, e.r.xs = il x.1 ∧ e.k = x.2 := fun e he => by
  have : (e.r.xs, e.k) ∈ fpr gs := List.mem_map.2 ⟨e, he, rfl⟩
  rw [hg] at this
  obtain ⟨x, hx, hxe⟩ := List.mem_map.1 this
  simp only [Prod.mk.injEq] at hxe
  exact ⟨x, hx, hxe.1.symm, hxe.2.symm⟩
 refine ⟨fun e he => ?_, fun P a b c => ?_, ?_⟩
 ·obtain ⟨x, hx, h1, h2⟩ := hmem e he
  obtain ⟨a, b, c, d, _⟩ := h.each x hx
  exact ⟨x.1, h1, a, b, c, by rw [h2, d]⟩
 ·have h1 := (mu_pos a hf).1 c
  obtain ⟨e, he, hk⟩ := hq.all P a b h1 trivial
  obtain ⟨x, hx, hxP⟩ := h.all e (by rw [List.take_length]; exact he) P a b (by rw [hk]; omega)
  have : (il x.1, x.2) ∈ fpr gs := by rw [hg]; exact List.mem_map.2 ⟨x, hx, rfl⟩
  obtain ⟨g, hgm, hge⟩ := List.mem_map.1 this
  simp only [Prod.mk.injEq] at hge
  exact ⟨g, hgm, by rw [hge.1, hxP]⟩
 ·have e1 : (gs.map fun e => e.r.xs) = (Ls.map (·.1)).map fun P => il P := by
   have := congrArg (fun l => l.map Prod.fst) hg
   simp only [fpr, List.map_map] at this
   rw [List.map_map]; exact this
  rw [e1]
  exact List.pairwise_map.2 (h.nd.imp fun hab e => hab (il_inj e))
open Classical in
theorem mu_ir {P Q : Po (El p m mod)} (hP : Ir P) (hQ : Ir Q) (h1 : lead P = 1) (h2 : lead Q = 1) : mu P Q = if P = Q then 1 else 0 := by
 by_cases e : P = Q
 ·subst e
  rw [if_pos rfl]
  refine mu_eq hP hP.ne (by rw [Rg.pow_one]; exact ⟨1, (Rg.mul_one _).symm⟩) fun hd => ?_
  have h3 := dvd_len hd hP.ne
  rw [len_powN hP.ne] at h3
  have := hP.two
  omega
 ·rw [if_neg e]
  refine mu_eq hP hQ.ne (one_dvd _) fun hd => e ?_
  rw [Nat.zero_add, Rg.pow_one] at hd
  exact hP.one hQ h1 h2 hd
theorem prF_mu3 {gs : List FacM} (h : ∀ e ∈ gs, lead (fcP p m mod e) = 1 ∧ 0 ≤ e.k ∧ Ir (fcP p m mod e) ∧ e.r.xs = il (fcP p m mod e)) (hnd : (gs.map fun e => e.r.xs).Nodup) {P : Po (El p m mod)} (hP : Ir P) (hl : lead P = 1) : ∀ n, n ≤ gs.length →
  (∀ j, j < n → (gs.getD j facD).r.xs = il P → mu P (prF p m mod 1 gs n) = (gs.getD j facD).k.toNat) ∧ ((∀ j, j < n → (gs.getD j facD).r.xs ≠ il P) → mu P (prF p m mod 1 gs n) = 0)
 | 0, _ => by
  have e : prF p m mod 1 gs 0 = (1 : Po (El p m mod)) := by show C (el 1) = 1; rw [el_one]; rfl
  exact ⟨fun j hj => by omega, fun _ => by rw [e, mu_one hP]⟩
 | n + 1, hn => by
  obtain ⟨ih1, ih2⟩ := prF_mu3 h hnd hP hl n (by omega)
  have hm := getD_mem (l := gs) (show n < gs.length by omega) facD
  have h1 := lead1_ne (prF_mu (fun e he => ⟨(h e he).1, (h e he).2.1⟩) n (by omega)).1
  obtain ⟨a, b, c, d⟩ := h _ hm
  have e : prF p m mod 1 gs (n + 1) = prF p m mod 1 gs n * Rg.pow (fcP p m mod (gs.getD n facD)) (gs.getD n facD).k.toNat := rfl
  have hdif : ∀ j, j < n → (gs.getD j facD).r.xs = il P → (gs.getD n facD).r.xs ≠ il P := fun j hj e1 e2 => by
   have h5 := List.pairwise_iff_getElem.1 hnd j n (by simp; omega) (by simp; omega) hj
   rw [List.getElem_map, List.getElem_map] at h5
   refine h5 ?_
   rw [List.getD_eq_getElem?_getD, List.getElem?_eq_getElem (show j < gs.length by omega)] at e1
   rw [List.getD_eq_getElem?_getD, List.getElem?_eq_getElem (show n < gs.length by omega)] at e2
   exact e1.trans e2.symm
  rw [e, mu_mul hP h1 (pow_ne0 c.ne _), mu_pow hP c.ne, mu_ir hP c hl a]
  have hiff : P = fcP p m mod (gs.getD n facD) ↔ (gs.getD n facD).r.xs = il P := ⟨fun e => by rw [d, ← e], fun e => by
   rw [d] at e; exact (il_inj e).symm⟩
  refine ⟨fun j hj hx => ?_, fun hno => ?_⟩
  ·rcases Nat.lt_or_ge j n with e1 | e1
   ·rw [ih1 j e1 hx, if_neg (fun e2 => hdif j e1 hx (hiff.1 e2)), Nat.mul_zero, Nat.add_zero]
   ·have : j = n := by omega
    subst this
    rw [ih2 fun i hi hxi => hdif i hi hxi hx, if_pos (hiff.2 hx), Nat.mul_one, Nat.zero_add]
  ·rw [ih2 fun i hi => hno i (by omega), if_neg (fun e2 => hno n (by omega) (hiff.1 e2)), Nat.mul_zero]
theorem CmI.prod {gs : List FacM} (h : CmI f gs) (hf : lead f = 1) : prF p m mod 1 gs gs.length = f ∧ fcT p m mod gs gs.length = (len f : Int) - 1 := by
 have hf0 := lead1_ne hf
 have hfc : ∀ e ∈ gs, lead (fcP p m mod e) = 1 ∧ 0 ≤ e.k := fun e he => by
  obtain ⟨_, b, _, _, _, d⟩ := h.fc hf0 he
  exact ⟨b, by omega⟩
 have h1 := prF_mu hfc gs.length (Nat.le_refl _)
 have e : prF p m mod 1 gs gs.length = f := eq_mu1 _ _ _ (Nat.le_refl _) h1.1 hf fun P hP hPl => by
  obtain ⟨h2, h3⟩ := prF_mu3 (fun e he => by
   obtain ⟨a, b, c, d, k, t⟩ := h.fc hf0 he
   exact ⟨b, by omega, a, d⟩) h.nd hP hPl gs.length (Nat.le_refl _)
  by_cases hd : P ∣ f
  ·obtain ⟨e, he, hx⟩ := h.all P hP hPl hd
   obtain ⟨j, hj, rfl⟩ := List.getElem_of_mem he
   have hg : gs.getD j facD = gs[j] := by rw [List.getD_eq_getElem?_getD, List.getElem?_eq_getElem hj]; rfl
   obtain ⟨_, _, _, d, k, _⟩ := h.fc hf0 (List.getElem_mem hj)
   rw [h2 j hj (by rw [hg]; exact hx), hg, k]
   have : fcP p m mod gs[j] = P := by unfold fcP; rw [hx, pol_il]
   rw [this]; omega
  ·have hz : mu P f = 0 := by
    have := mu_pos hP hf0
    have h5 : ¬ 1 ≤ mu P f := fun h => hd (this.2 h)
    omega
   rw [hz]
   refine h3 fun j hj hx => hd ?_
   obtain ⟨_, _, c, d, _⟩ := h.fc hf0 (getD_mem hj facD)
   have : fcP p m mod (gs.getD j facD) = P := by unfold fcP; rw [hx, pol_il]
   rw [← this]; exact c
 refine ⟨e, ?_⟩
 rw [e] at h1
 omega
theorem CmI.le {gs : List FacM} (h : CmI f gs) (hf : f ≠ 0) : ∀ e ∈ gs, e.r.xs.length ≤ len f ∧ 2 ≤ e.r.xs.length ∧ 1 ≤ e.k ∧ e.k ≤ len f := fun e he => by
 obtain ⟨a, b, c, d, k, t⟩ := h.fc hf he
 have h1 := dvd_len c hf
 have h2 := a.two
 rw [d, il_length]
 refine ⟨h1, h2, t, ?_⟩
 have h3 := dvd_len (mu_spec a hf).1 hf
 rw [len_powN a.ne] at h3
 have h4 : mu (fcP p m mod e) f * 1 ≤ mu (fcP p m mod e) f * (len (fcP p m mod e) - 1) := Nat.mul_le_mul_left _ (by omega)
 omega
theorem fcT_ge {gs : List FacM} (h : ∀ e ∈ gs, 2 ≤ len (fcP p m mod e) ∧ 1 ≤ e.k) : ∀ n : Nat, n ≤ gs.length → (n : Int) ≤ fcT p m mod gs n
 | 0, _ => Int.le_refl _
 | n + 1, hn => by
  have ih := fcT_ge h n (by omega)
  obtain ⟨a, b⟩ := h _ (getD_mem (show n < gs.length by omega) facD)
  rw [fcT_succ (by omega)]
  have h1 : 1 ≤ fcD p m mod (gs.getD n facD) := by unfold fcD; omega
  have h2 : (1 : Int) * 1 ≤ fcD p m mod (gs.getD n facD) * (gs.getD n facD).k := Int.mul_le_mul h1 b (by omega) (by omega)
  omega
theorem CmI.cnt {gs : List FacM} (h : CmI f gs) (hf : lead f = 1) : gs.length + 1 ≤ len f := by
 have h1 := (h.prod hf).2
 have h2 := fcT_ge (fun e he => by
  obtain ⟨a, _, _, _, _, b⟩ := h.fc (lead1_ne hf) he
  exact ⟨a.two, b⟩) gs.length (Nat.le_refl _)
 omega
theorem canL_il (hq : pw p m = pw p m) (P : Po (El p m mod)) : canL (pw p m) (il P) = il P := by rw [← il_pol (mod := mod), pol_il]
end
end Go.Proofs.YtdkahdehodopoaaGreat

set_option maxRecDepth 100000
set_option maxHeartbeats 1000000
namespace Go.Proofs.YtdkahdehodopoaaGreat
open Go.RowKit
theorem Pure.sub {P : Program} {f : FuncId} {args : Array Value} {G G' : List Chunk} {R : Value → List Chunk → Prop} (h : Pure P f args G R) (hs : ∀ w, (∀ c ∈ G', c.sat w) → ∀ c ∈ G, c.sat w) : Pure P f args G' R := ⟨h.ent, fun w hg => h.run w (hs w hg)⟩
theorem fpr_add {p m : Int} {mod : List Int} [hF : IsF p m mod] {gs : List FacM} {Ls : List (Po (El p m mod) × Int)} (h : fpr gs = Ls.map fun x => (il x.1, x.2)) (B : Option Addr) (c : Nat) (P : Po (El p m mod)) (k : Int) : fpr (gs ++ [⟨⟨B, c, il P⟩, k⟩]) = (Ls ++ [(P, k)]).map fun x => (il x.1, x.2) := by
 rw [fpr_app, h, List.map_append]; rfl
theorem take_mapP {p m : Int} {mod : List Int} [hF : IsF p m mod] {ps : List (Po (El p m mod))} {k : Nat} (h : k < ps.length) (c : Int) : (ps.take (k + 1)).map (fun P => (P, c)) = (ps.take k).map (fun P => (P, c)) ++ [(ps.getD k 0, c)] := by
 rw [take_getD h 0, List.map_append]; rfl
theorem cmt_cmp_ent : Enters Tryz.prog 49 := enters_of Tryz.func49 (by kernel_rfl) (by kernel_rfl)
theorem cmt_cmp (g : GfM) (pg : Addr) (Ax : Option Addr) (nx cx : Nat) (kx : Int) (a : List Int) (hnx : nx = a.length) (ha : a.length ≤ 1000000) (Ay : Option Addr) (ny cy : Nat) (ky : Int) (b : List Int) (hny : ny = b.length) (hb : b.length ≤ 1000000) :
  Pure Tryz.prog 49 #[.agg #[.slice Ax nx cx, .int .i64 kx], .agg #[.slice Ay ny cy, .int .i64 ky], .pointer (some pg)] [ro (some pg) [.pointer (some g.p)], gfR g, ro Ax (ints a), ro Ay (ints b)] (isV (.int .i64 (cmpL (canL g.q a) (canL g.q b)))) := by
 refine pure_of (args := [.agg #[.slice Ax nx cx, .int .i64 kx], .agg #[.slice Ay ny cy, .int .i64 ky], .pointer (some pg)]) 12 Tryz.func49 rfl rfl rfl cmt_cmp_ent ⟨id, id, id, id, trivial⟩ (fun w0 => ?_)
 refine tS ?_
 refine tR fun _ _ _ => ?_
 refine eV (eBox rfl rfl rfl rfl rfl (fun p0 => ?_))
 refine eV (eBox rfl rfl rfl rfl rfl (fun p0a => ?_))
 refine pV ?_
 refine tS ?_
 refine tR fun _ _ _ => ?_
 refine sV (rLd0 rfl rfl) ?_
 refine sV (rFld rfl rfl) ?_
 refine sV (rLdF rfl rfl rfl) ?_
 refine sV (rFld rfl rfl) ?_
 refine sV (rLdF rfl rfl rfl) ?_
 refine eV (eCallV rfl rfl rfl (fac_Compare g Ax nx cx a hnx (by omega) Ay ny cy b hny (by omega)) ⟨rfl, rfl, rfl, trivial⟩ ?_)
 refine pV ?_
 exact tr_ret ⟨trivial, _, _, rfl, ⟨rfl, rfl⟩, CSub.nil _, trivial⟩
theorem fac_CompleteL_ent : Enters Tryz.prog 18 := enters_of Tryz.func18 (by kernel_rfl) (by kernel_rfl)
theorem fac_CompleteL (hlib : FacSort) (hnone : FacNone) (g : GfM) {p m : Int} {mod : List Int} [hF : IsF p m mod] (hg : GOk g p m mod) (A : Option Addr) (n c : Nat) (a : List Int) (hn : n = a.length) (ha9 : a.length ≤ 17592186044415) (he : facE (Po.len (pol a : Po (El p m mod))) = 0) :
  Pure Tryz.prog 18 #[.pointer (some g.p), .slice A n c] [gfR g, ro A (ints a)] (two (fun v ch ch2 => ∃ B cap gs, v = .tuple #[.int .i64 (Po.lead (pol a : Po (El p m mod))).1, .slice B gs.length cap, .int .i64 0] ∧ ch = ow2 B 53 cap (fcs gs) ∧ ch2 = rowsCh 3 (rws gs) ∧ CmI (Po.mon (pol a : Po (El p m mod))) gs ∧ RisF gs ∧ gs.length ≤ 257)) := by
 have hq2 := hF.q2
 have hgq := hg.eq
 have hil := il_length (pol a : Po (El p m mod))
 have hle := facE_ok he
 have h0 : (pol a : Po (El p m mod)) ≠ 0 := Po.len_pos_iff.1 (by omega)
 have hml := Po.mon_len (pol a : Po (El p m mod))
 have hm0 := Po.mon_ne h0
 have hmle := Po.mon_lead h0
 have hmil := il_length (Po.mon (pol a : Po (El p m mod)))
 refine pure_of (args := [.pointer (some g.p), .slice A n c]) 61 Tryz.func18 rfl rfl rfl fac_CompleteL_ent ⟨id, id, trivial⟩ (fun w0 => ?_)
 refine tS ?_
 refine tR fun _ _ _ => ?_
 refine eV (eBox rfl rfl rfl rfl rfl (fun p0 => ?_))
 iterate 3 refine pV ?_
 refine tS ?_
 refine tR fun _ _ _ => ?_
 refine sV (rLd0 rfl rfl) ?_
 refine pV ?_
 refine eV (eCall1 rfl rfl rfl (fac_enter g hg A n c a hn ha9 he) ⟨rfl, rfl, trivial⟩ ?_)
 rintro _ _ ⟨B1, c1, rfl, hc1, rfl⟩
 iterate 5 refine pV ?_
 refine tS ?_
 refine tS ?_
 refine tR fun _ _ _ => ?_
 iterate 2 refine pV ?_
 refine tC rfl (fun h2 => ?_) (fun h2 => ?_)
 ·try simp only [zbA] at h2
  first | exact absurd trivial h2 | exact absurd rfl h2 | omega | (exact absurd h2 (by simp)) --done
 ·try simp only [zbA] at h2
  refine tK ?_
  refine tS ?_
  refine tS ?_
  refine tr_draw [0, 1, 2, 6, 3, 4, 5] [] mixed (by kernel_rfl) fun _ _ _ => ?_
  refine sV (rLd0 rfl rfl) ?_
  refine sV (rLd0 rfl rfl) ?_
  iterate 2 refine pV ?_
  refine eV (eCall1 rfl rfl rfl (fac_monic g hg B1 _ c1 (il (pol a : Po (El p m mod))) rfl (by omega) (by rw [pol_il]; exact h0)) ⟨rfl, rfl, trivial⟩ ?_)
  rintro _ _ ⟨B4, c4, rfl, rfl⟩
  rw [pol_il]
  refine eV (eCall2 rfl rfl rfl (fac_sqf g hg B4 _ c4 (Po.mon (pol a : Po (El p m mod))) (by rw [il_length]) (Po.mon_lead h0) (by omega)) ⟨rfl, rfl, rfl, trivial⟩ ?_)
  rintro _ _ _ ⟨Bs, cs_, fs, rfl, rfl, rfl, hI0, hfl⟩
  refine sV (rLenS rfl rfl) ?_
  refine tB ?_
  refine tr_nilQ 53 3 ?_
  refine tr_loop5 (fun (j : Int) (Bg : Option Addr) (cg : Nat) (gs : List FacM) (Ls : List (Po (El p m mod) × Int)) => [(2, .pointer (some p0)), (25, .slice Bs fs.length cs_), (26, .int .i64 (fs.length : Nat)), (27, .int .i64 j), (5, .slice Bg gs.length cg), (7, .slice B1 (il (pol a : Po (El p m mod))).length c1), (4, .int .i64 0), (6, .int .i64 0)]) (fun (j : Int) (Bg : Option Addr) (cg : Nat) (gs : List FacM) (Ls : List (Po (El p m mod) × Int)) => [ow2 Bg 53 cg (fcs gs), rowsCh 3 (rws gs), ow2 Bs 53 cs_ (fcs fs), rowsR (rws fs), ow B1 3 c1 (ints (il (pol a : Po (El p m mod)))), blk p0 45 [.pointer (some g.p)], gfR g]) (fun (j : Int) (Bg : Option Addr) (cg : Nat) (gs : List FacM) (Ls : List (Po (El p m mod) × Int)) => (0 ≤ j ∧ j ≤ fs.length) ∧ (fpr gs = Ls.map fun x => (il x.1, x.2)) ∧ CmJ (Po.mon (pol a : Po (El p m mod))) fs j.toNat Ls ∧ gs.length ≤ 256 * j) (fun (j : Int) (Bg : Option Addr) (cg : Nat) (gs : List FacM) (Ls : List (Po (El p m mod) × Int)) => (fs.length - j).toNat) (0) (none) (0) ([]) ([]) ⟨rfl, rfl, rfl, rfl, rfl, rfl, rfl, rfl, trivial⟩ (by exact (cs _ [rowsCh 3 (rws fs), ow2 none 53 0 (fcs []), rowsCh 3 (rws []), ow2 Bs 53 cs_ (fcs fs), ow B1 3 c1 (ints (il (pol a : Po (El p m mod)))), blk p0 45 [.pointer (some g.p)], gfR g]).trans ((rows_weak _).trans (cs _ _))) (⟨⟨by omega, by omega⟩, rfl, CmJ.start, by simp⟩) (fun j Bg cg gs Ls hI => ?_)
  obtain ⟨⟨hj0, hj1⟩, hfp, hJ, hgb⟩ := hI
  refine tS ?_
  refine tR fun _ _ _ => ?_
  refine pV ?_
  refine tS ?_
  refine tC rfl (fun h5 => ?_) (fun h5 => ?_)
  ·try simp only [zbA] at h5
   refine tK ?_
   refine tS ?_
   refine tB ?_
   refine tS ?_
   have hjl : j.toNat < fs.length := by omega
   have hQm := getD_mem hjl facD
   obtain ⟨hQ1, hQ3, hQ2, hQ4, hQ5, hQ6, hQx⟩ := hI0.fc _ hQm
   have hQl := (hI0.le hmle _ hQm).1
   refine tR fun _ _ _ => ?_
   refine sV (rIdxT rfl rfl rfl (by omega) (by omega) (by simp; omega)) ?_
   refine sV (rLdT rfl rfl (by simp; omega)) ?_
   refine eV (eAlloc rfl rfl rfl (fun p6 => ?_))
   rw [fcs_get1 fs j.toNat hjl, fcs_get2 fs j.toNat hjl]
   rw [hQx]
   refine eV (eStS rfl rfl rfl rfl rfl rfl ?_)
   refine tr_chunks [ro (fs.getD j.toNat facD).r.A (ints (il (fcP p m mod (fs.getD j.toNat facD)))), blk p6 53 [.slice (fs.getD j.toNat facD).r.A (il (fcP p m mod (fs.getD j.toNat facD))).length (fs.getD j.toNat facD).r.cap, .int .i64 (fs.getD j.toNat facD).k], ow2 Bg 53 cg (fcs gs), rowsCh 3 (rws gs), ow2 Bs 53 cs_ (fcs fs), rowsR (rws fs), ow B1 3 c1 (ints (il (pol a : Po (El p m mod)))), blk p0 45 [.pointer (some g.p)], gfR g] (hQx ▸ (cs _ [rowsR (rws fs), blk p6 53 [.slice (fs.getD j.toNat facD).r.A (fs.getD j.toNat facD).r.xs.length (fs.getD j.toNat facD).r.cap, .int .i64 (fs.getD j.toNat facD).k], ow2 Bg 53 cg (fcs gs), rowsCh 3 (rws gs), ow2 Bs 53 cs_ (fcs fs), ow B1 3 c1 (ints (il (pol a : Po (El p m mod)))), blk p0 45 [.pointer (some g.p)], gfR g]).trans ((row_ro (rs := rws fs) (List.mem_map.2 ⟨_, getD_mem hjl facD, rfl⟩) _).trans (cs _ _))) ?_
   refine tS ?_
   refine tR fun _ _ _ => ?_
   refine sV (rLd0 rfl rfl) ?_
   refine sV (rFld rfl rfl) ?_
   refine sV (rLdF rfl rfl rfl) ?_
   refine eV (eCall2 rfl rfl rfl (fac_split g hg (fs.getD j.toNat facD).r.A (fs.getD j.toNat facD).r.cap (fcP p m mod (fs.getD j.toNat facD)) hQ1 hQ2 (by omega) hQ5) ⟨rfl, rfl, trivial⟩ ?_)
   rintro _ _ _ ⟨Bp, cp, rs, qs, ps, rfl, rfl, rfl, hal, hxs, hIr, hprd, hrl⟩
   refine sV (rLen rfl rfl) ?_
   refine pV ?_
   have hpsl := xss_len hxs
   refine tr_chunks [rowsR rs, ro (fs.getD j.toNat facD).r.A (ints (il (fcP p m mod (fs.getD j.toNat facD)))), ow Bp 22 cp (hdrs rs), blk p6 53 [.slice (fs.getD j.toNat facD).r.A (il (fcP p m mod (fs.getD j.toNat facD))).length (fs.getD j.toNat facD).r.cap, .int .i64 (fs.getD j.toNat facD).k], ow2 Bg 53 cg (fcs gs), rowsCh 3 (rws gs), ow2 Bs 53 cs_ (fcs fs), rowsR (rws fs), ow B1 3 c1 (ints (il (pol a : Po (El p m mod)))), blk p0 45 [.pointer (some g.p)], gfR g] ((cs _ [rowsCh 3 qs, ro (fs.getD j.toNat facD).r.A (ints (il (fcP p m mod (fs.getD j.toNat facD)))), ow Bp 22 cp (hdrs rs), blk p6 53 [.slice (fs.getD j.toNat facD).r.A (il (fcP p m mod (fs.getD j.toNat facD))).length (fs.getD j.toNat facD).r.cap, .int .i64 (fs.getD j.toNat facD).k], ow2 Bg 53 cg (fcs gs), rowsCh 3 (rws gs), ow2 Bs 53 cs_ (fcs fs), rowsR (rws fs), ow B1 3 c1 (ints (il (pol a : Po (El p m mod)))), blk p0 45 [.pointer (some g.p)], gfR g]).trans (al_sub hal 3 _)) ?_
   refine tB ?_
   refine tr_loop4 (fun (k : Int) (Bg : Option Addr) (cg : Nat) (gs : List FacM) => [(2, .pointer (some p0)), (9, .pointer (some p6)), (34, .slice Bp rs.length cp), (35, .int .i64 (rs.length : Nat)), (36, .int .i64 k), (5, .slice Bg gs.length cg), (4, .int .i64 0), (6, .int .i64 0), (7, .slice B1 (il (pol a : Po (El p m mod))).length c1), (25, .slice Bs fs.length cs_), (26, .int .i64 (fs.length : Nat)), (27, .int .i64 j)]) (fun (k : Int) (Bg : Option Addr) (cg : Nat) (gs : List FacM) => [ow2 Bg 53 cg (fcs gs), rowsCh 3 (rws gs), rowsR rs, ow Bp 22 cp (hdrs rs), blk p6 53 [.slice (fs.getD j.toNat facD).r.A (il (fcP p m mod (fs.getD j.toNat facD))).length (fs.getD j.toNat facD).r.cap, .int .i64 (fs.getD j.toNat facD).k], ow2 Bs 53 cs_ (fcs fs), rowsR (rws fs), ow B1 3 c1 (ints (il (pol a : Po (El p m mod)))), blk p0 45 [.pointer (some g.p)], gfR g]) (fun (k : Int) (Bg : Option Addr) (cg : Nat) (gs : List FacM) => (0 ≤ k ∧ k ≤ rs.length) ∧ (fpr gs = (Ls ++ (ps.take k.toNat).map fun P => (P, (fs.getD j.toNat facD).k)).map fun x => (il x.1, x.2)) ∧ gs.length ≤ 256 * j + k) (fun (k : Int) (Bg : Option Addr) (cg : Nat) (gs : List FacM) => (rs.length - k).toNat) (0) (Bg) (cg) (gs) ⟨rfl, rfl, rfl, rfl, rfl, rfl, rfl, rfl, rfl, rfl, rfl, rfl, trivial⟩ (by first | exact cs _ _ | exact CSub.refl _) (⟨⟨by omega, by omega⟩, by rw [show Int.toNat 0 = 0 from rfl, List.take_zero, List.map_nil, List.append_nil]; exact hfp, by omega⟩) (fun k Bg cg gs hI => ?_)
   obtain ⟨⟨hk0, hk1⟩, hfk, hgb2⟩ := hI
   refine tS ?_
   refine tR fun _ _ _ => ?_
   refine pV ?_
   refine tS ?_
   refine tC rfl (fun h8 => ?_) (fun h8 => ?_)
   ·try simp only [zbA] at h8
    refine tK ?_
    refine tS ?_
    refine tB ?_
    refine tS ?_
    haveI : InB k.toNat rs.length := ⟨by omega⟩
    have hpx := xss_at hxs (show k.toNat < rs.length by omega)
    have hpi := (hIr.mem _).1 (Vc.getD_eq_mem (show k.toNat < ps.length by omega) (0 : Po (El p m mod)))
    have hpl := Po.dvd_len hpi.2.2 (lead1_ne hQ1)
    have hpl2 := il_length (ps.getD k.toNat 0)
    have hpx2 := congrArg List.length hpx
    refine tR fun _ _ _ => ?_
    refine sV (rIdxR rfl rfl rfl (by omega) (by omega) (by omega)) ?_
    refine sV (rLdR rfl rfl (by omega)) ?_
    refine pV ?_
    refine tr_draw [0, 1, 2, 4, 5, 3, 6, 7] [8, 9] mixed (by kernel_rfl) fun _ _ _ => ?_
    refine pV ?_
    refine sV (rLd0 rfl rfl) ?_
    refine pV ?_
    refine sV (rFld rfl rfl) ?_
    refine sV (rLdF rfl rfl rfl) ?_
    refine eV (eCall1 rfl rfl rfl (fac_monic g hg (rs.getD k.toNat rowD).A _ (rs.getD k.toNat rowD).cap (rs.getD k.toNat rowD).xs rfl (by omega) (by rw [hpx, pol_il]; exact lead1_ne hpi.2.1)) ⟨rfl, rfl, trivial⟩ ?_)
    rintro _ _ ⟨Bm, cm, rfl, rfl⟩
    refine sV (rBuild rfl rfl) ?_
    rw [show Po.mon (pol (rs.getD k.toNat rowD).xs : Po (El p m mod)) = ps.getD k.toNat 0 by rw [hpx, pol_il, Po.mon_of_monic hpi.2.1]]
    refine eV (eLitS rfl rfl rfl rfl (fun p10 => ?_))
    refine eV (eApp2 rfl rfl rfl rfl rfl (by first | rfl | simp) rfl (by first | (simp; done) | (simp; omega)) (by first | (simp; done) | (simp; omega)) (fun A10a c10a => ?_))
    refine pV ?_
    rw [fcs_snoc, fcs_length]
    refine tR fun _ _ _ => ?_
    refine sV (rAdd rfl rfl rfl (by omega) (by omega)) ?_
    refine pV ?_
    refine ⟨k + 1, A10a, c10a, gs ++ [⟨⟨Bm, cm, il (ps.getD k.toNat 0)⟩, (fs.getD j.toNat facD).k⟩], ⟨rfl, rfl, rfl, rfl, rfl, rfl, rfl, rfl, rfl, rfl, rfl, rfl, trivial⟩, by rw [rws_app]; exact rows_app (r := ⟨Bm, cm, il (ps.getD k.toNat 0)⟩), ?_⟩
    refine ⟨⟨⟨by omega, by omega⟩, ?_, by simp; omega⟩, by omega⟩
    rw [show (k + 1).toNat = k.toNat + 1 by omega, take_mapP (by omega), ← List.append_assoc]
    exact fpr_add hfk _ _ _ _
   ·try simp only [zbA] at h8
    refine tE ?_
    refine tR fun _ _ _ => ?_
    refine sV (rAdd rfl rfl rfl (by omega) (by omega)) ?_
    refine pV ?_
    refine ⟨j + 1, Bg, cg, gs, Ls ++ ps.map fun P => (P, (fs.getD j.toNat facD).k), ⟨rfl, rfl, rfl, rfl, rfl, rfl, rfl, rfl, trivial⟩, by first | exact cs _ _ | exact CSub.refl _, ?_⟩
    refine ⟨⟨⟨by omega, by omega⟩, ?_, ?_, by omega⟩, by omega⟩
    ·rw [show k.toNat = ps.length by omega, List.take_length] at hfk; exact hfk
    ·rw [show (j + 1).toNat = j.toNat + 1 by omega]
     exact hJ.next hm0 hI0 hjl hIr
  ·try simp only [zbA] at h5
   refine tE ?_
   refine tS ?_
   have hjf : j.toNat = fs.length := by omega
   rw [hjf] at hJ
   have hC := hJ.done hm0 hI0 hfp
   have hgl := hC.cnt hmle
   have hfle := hC.le hm0
   have hcmp : ∀ x ∈ gs, ∀ y ∈ gs, Pure Tryz.prog 49 ([Value.agg #[x.r.hdr, .int .i64 x.k], Value.agg #[y.r.hdr, .int .i64 y.k]] ++ [(.pointer (some p0) : Value)]).toArray [ro (some p0) [.pointer (some g.p)], gfR g, rowsR (rws gs)] (isV (.int .i64 (cmpL x.r.xs y.r.xs))) := fun x hx y hy => by
    have h1 := hfle x hx
    have h2 := hfle y hy
    have e1 := (hC.fc hm0 hx).2.2.2.1
    have e2 := (hC.fc hm0 hy).2.2.2.1
    have h3 := (cmt_cmp g p0 x.r.A _ x.r.cap x.k x.r.xs rfl (by omega) y.r.A _ y.r.cap y.k y.r.xs rfl (by omega)).sub (G' := [ro (some p0) [.pointer (some g.p)], gfR g, rowsR (rws gs)]) fun w hw ch hch => by
     simp only [List.mem_cons, List.not_mem_nil, or_false] at hch
     rcases hch with rfl | rfl | rfl | rfl
     ·exact hw _ (by simp)
     ·exact hw _ (by simp)
     ·exact hw (rowsR (rws gs)) (by simp) _ (List.mem_map.2 ⟨x, hx, rfl⟩)
     ·exact hw (rowsR (rws gs)) (by simp) _ (List.mem_map.2 ⟨y, hy, rfl⟩)
    rw [e1, e2, hgq, canL_il rfl, canL_il rfl, ← e1, ← e2] at h3
    exact h3
   refine tR fun _ _ _ => ?_
   refine pV ?_
   refine sV (rFun rfl rfl rfl) ?_
   refine eV (eCallM1 rfl rfl rfl (slc_SortFac hlib hnone Bg _ cg gs rfl (by omega) 49 [.pointer (some p0)] [ro (some p0) [.pointer (some g.p)], gfR g, rowsR (rws gs)] ⟨id, id, id, trivial⟩ (fun x y => cmpL x.r.xs y.r.xs) hcmp (fun x _ => cmpL_irr _) (fun x _ y _ z _ h1 h2 => cmpL_trans h1 h2) (fun x _ y _ z _ h1 h2 => cmpL_ntr h1 h2)) ⟨rfl, rfl, trivial⟩ ?_)
   rintro _ _ ⟨hs, rfl, rfl, hperm, hsrt⟩
   refine tS ?_
   have hhl := hperm.length_eq
   refine tR fun _ _ _ => ?_
   iterate 2 refine pV ?_
   refine sV (rLen rfl rfl) ?_
   refine sV (rSub rfl rfl rfl (by omega) (by omega)) ?_
   refine sV (rIdxI rfl rfl rfl (by omega) (by omega) (by omega)) ?_
   refine sV (rLdI rfl rfl (by omega)) ?_
   iterate 4 refine pV ?_
   have hlv : (il (pol a : Po (El p m mod))).getD (((il (pol a : Po (El p m mod))).length : Int) - 1).toNat 0 = (Po.lead (pol a : Po (El p m mod))).1 := by
    rw [il_getD, hil, show ((Po.len (pol a : Po (El p m mod)) : Int) - 1).toNat = Po.len (pol a : Po (El p m mod)) - 1 by omega]; rfl
   rw [hlv, ← hhl]
   exact tr_ret ⟨trivial, _, _, rfl, ⟨_, _, rfl, Bg, cg, hs, rfl, rfl, rfl, hC.perm hperm, (hC.perm hperm).rise hsrt, by omega⟩, (cs _ [rowsCh 3 (rws gs), ow2 Bg 53 cg (fcs hs)]).trans ((rows_permM (rs := rws gs) (qs := rws hs) (hperm.symm.map FacM.r) _).trans (cs _ _)), trivial, trivial, trivial⟩
end Go.Proofs.YtdkahdehodopoaaGreat

namespace Go.Proofs.YtdkahdehodopoaaGreat
open Go.RowKit
section
open Po
end
end Go.Proofs.YtdkahdehodopoaaGreat

namespace Go.Proofs.YtdkahdehodopoaaGreat
open Go.RowKit
section
end
section
end
def rowsX (rs : List RowM) : Chunk where
 foot b := ∃ r ∈ rs, (ro r.A (ints r.xs)).foot b
 excl := True
 sat w := ∀ r ∈ rs, (ro r.A (ints r.xs)).sat w
 loc w w' h hs := fun r hr => (ro r.A (ints r.xs)).loc w w' (fun b hb => h b ⟨r, hr, hb⟩) (hs r hr)
 cel w b hs hb := by
  obtain ⟨r, hr, hb⟩ := hb
  exact (ro r.A (ints r.xs)).cel w b (hs r hr) hb
instance HasRows.ofX (F : List Chunk) (rs : List RowM) : HasRows (rowsX rs :: F) rs := ⟨fun _ _ _ hm => hm.sat (rowsX rs) (List.mem_cons_self ..), fun b hb => ⟨_, List.mem_cons_self .., hb⟩⟩
end Go.Proofs.YtdkahdehodopoaaGreat

namespace Go.Proofs.YtdkahdehodopoaaGreat
open Po
section
end
end Go.Proofs.YtdkahdehodopoaaGreat

namespace Go.Proofs.YtdkahdehodopoaaGreat
open Po
theorem dig_ex {q : Nat} (hq : 1 ≤ q) : ∀ (n : Nat) (c : Nat → Nat), (∀ i, i < n → c i < q) → ∃ v, v < q ^ n ∧ ∀ i, i < n → v / q ^ i % q = c i
 | 0, c, _ => ⟨0, by rw [Nat.pow_zero]; omega, fun i h => by omega⟩
 | n + 1, c, h => by
  obtain ⟨v, h1, h2⟩ := dig_ex hq n (fun i => c (i + 1)) fun i hi => h (i + 1) (by omega)
  have h0 := h 0 (by omega)
  refine ⟨c 0 + q * v, ?_, fun i hi => ?_⟩
  ·rw [Nat.pow_succ, Nat.mul_comm (q ^ n) q]
   have := Nat.mul_le_mul_left q (show v + 1 ≤ q ^ n by omega)
   rw [Nat.mul_add, Nat.mul_one] at this
   omega
  ·cases i with
   | zero => rw [Nat.pow_zero, Nat.div_one, Nat.add_mul_mod_self_left, Nat.mod_eq_of_lt h0]
   | succ i =>
    rw [Nat.pow_succ, Nat.mul_comm (q ^ i), ← Nat.div_div_eq_div_mul, Nat.add_mul_div_left _ _ (by omega), Nat.div_eq_of_lt h0, Nat.zero_add]
    exact h2 i (by omega)
def dgm (q n v : Nat) : List Int := ((List.range n).map fun i => ((v / q ^ i % q : Nat) : Int)) ++ [1]
theorem dgm_get (q n v j : Nat) : (dgm q n v).getD j 0 = if j < n then ((v / q ^ j % q : Nat) : Int) else if j = n then 1 else 0 := by
 rw [dgm, List.getD_eq_getElem?_getD, List.getElem?_append, List.length_map, List.length_range]
 by_cases h : j < n
 ·rw [if_pos h, if_pos h, List.getElem?_map, List.getElem?_range h]; rfl
 ·rw [if_neg h, if_neg h]
  by_cases e : j = n
  ·rw [if_pos e, e, Nat.sub_self]; rfl
  ·rw [if_neg e, List.getElem?_eq_none (by simp; omega)]; rfl
section
variable {p m : Int} {mod : List Int} [hF : IsF p m mod]
noncomputable def dgP (p m : Int) (mod : List Int) [hF : IsF p m mod] (n v : Nat) : Po (El p m mod) := pol (dgm (pw p m).toNat n v)
theorem dgP_cf (n v j : Nat) : cf (dgP p m mod n v) j = if j < n then el ((v / (pw p m).toNat ^ j % (pw p m).toNat : Nat) : Int) else if j = n then 1 else 0 := by
 rw [dgP, cf_pol, dgm_get]
 split
 ·rfl
 ·split
  ·exact el_one
  ·exact el_zero
theorem dgP_surj {n : Nat} {f : Po (El p m mod)} (hl : len f = n + 1) (h1 : lead f = 1) : ∃ v, v < (pw p m).toNat ^ n ∧ dgP p m mod n v = f := by
 have hq : 2 ≤ (pw p m).toNat := by have := hF.q2; omega
 obtain ⟨v, h2, h3⟩ := dig_ex (q := (pw p m).toNat) (by omega) n (fun i => (cf f i).1.toNat) fun i _ => by
  have := (cf f i).2; omega
 refine ⟨v, h2, Po.ext fun j => ?_⟩
 rw [dgP_cf]
 by_cases a : j < n
 ·rw [if_pos a, h3 j a, Int.toNat_of_nonneg (cf f j).2.1, el_of]
 ·rw [if_neg a]
  by_cases b : j = n
  ·rw [if_pos b, b, ← h1, lead, hl]; rfl
  ·rw [if_neg b, cf_ge (by omega)]
end
end Go.Proofs.YtdkahdehodopoaaGreat

set_option maxRecDepth 100000
namespace Go.Proofs.YtdkahdehodopoaaGreat
open Go Go.RowKit Go.Sort Go.Shelf
theorem put_map {α : Type} [Inhabited α] (enc : α → Value) (w : World) (b : Nat) (d : Array α) : putRow enc w b 0 d = putRow id w b 0 (d.map enc) := by
 unfold putRow
 congr 1
 funext c
 unfold putCells
 congr 1
 funext k x
 simp only [Array.size_map, Nat.zero_add, Nat.zero_le, true_and, Nat.sub_zero, id_eq]
 by_cases h : k < d.size
 ·rw [if_pos h, if_pos h, getElem!_pos d k h, getElem!_pos (d.map enc) k (by simpa using h), Array.getElem_map]
 ·rw [if_neg h, if_neg h]
theorem hdrs_arr (rs : List RowM) (d : Array (Fin rs.length)) : d.map (fun i => (rs[i]).hdr) = (hdrs (d.toList.map fun i => rs[i])).toArray := by
 apply Array.ext'
 simp [hdrs]
theorem finR_map (rs : List RowM) : ((List.finRange rs.length).map fun i => rs[i]) = rs := List.ext_getElem (by simp) fun j h1 h2 => by simp
theorem slc_SortRows (A : Option Addr) (n c : Nat) (fs : List RowM) (hn : n = fs.length) (h0 : fs ≠ []) (h9 : fs.length ≤ 1000000000) (g : FuncId) (cb : List Value) (G : List Chunk) (hG : NoEx G) (cf : RowM → RowM → Int)
  (hp : ∀ x ∈ fs, ∀ y ∈ fs, Pure Tryz.prog g ([x.hdr, y.hdr] ++ cb).toArray G (isV (.int .i64 (cf x y))))
  (hi : ∀ x ∈ fs, ¬ cf x x < 0) (ht : ∀ x ∈ fs, ∀ y ∈ fs, ∀ z ∈ fs, cf x y < 0 → cf y z < 0 → cf x z < 0) (hnt : ∀ x ∈ fs, ∀ y ∈ fs, ∀ z ∈ fs, ¬ cf x y < 0 → ¬ cf y z < 0 → ¬ cf x z < 0) :
  Mut Tryz.prog 22 #[.slice A n c, .func (.func g) #[] cb.toArray] [ow A 22 c (hdrs fs)] G (one (fun v ch => ∃ gs : List RowM, v = .tuple #[] ∧ ch = ow A 22 c (hdrs gs) ∧ gs.Perm fs)) := ⟨enters_of Tryz.func22 (by kernel_rfl) (by kernel_rfl), fun w hm => by
 subst hn
 have hlp : 0 < fs.length := List.length_pos_iff.2 h0
 haveI : Inhabited (Fin fs.length) := ⟨⟨0, hlp⟩⟩
 have hs0 : w.ownsRow 0 22 1 (.slice A (hdrs fs).length c) (hdrs fs).length (hdrs fs) := hm.sat _ (List.mem_cons_self ..)
 rcases hs0 with ⟨h1, ⟨h2, h3⟩ | ⟨b, cap, cur, hv, hb, hh, hc, hmx, hs, htk⟩⟩
 ·have : (hdrs fs).length = 0 := by rw [h3]
  rw [hdrs_length] at this
  omega
 ·simp only [Value.slice.injEq] at hv
  obtain ⟨rfl, _, rfl⟩ := hv
  rw [hdrs_length] at hc
  have htk' : cur.toList.take (hdrs fs).length = hdrs fs := by
   rw [Nat.mul_one] at htk; exact htk
  have hg : b < w.heap.size := (Array.getElem?_eq_some_iff.1 hh).1
  have hd0 : (List.finRange fs.length).toArray.size = fs.length := by simp
  let enc : Fin fs.length → Value := fun i => (fs[i]).hdr
  have henc : ∀ d : Array (Fin fs.length), d.map enc = (hdrs (d.toList.map fun i => fs[i])).toArray := fun d => hdrs_arr fs d
  have hfl := henc (List.finRange fs.length).toArray
  rw [show (List.finRange fs.length).toArray.toList = List.finRange fs.length from rfl, finR_map] at hfl
  have hH : Go.Sort.Holds enc w b 0 (List.finRange fs.length).toArray := fun j hj => by
   have hf := holds_flat hh htk' j (by rw [hd0] at hj; simpa using hj)
   rw [← hfl] at hf
   have hj2 : j < ((List.finRange fs.length).toArray.map enc).size := by simpa using hj
   rw [getElem!_pos _ j hj2, Array.getElem_map] at hf
   rw [getElem!_pos _ j hj]
   exact hf
  have hsw : ∀ (d : Array (Fin fs.length)) q os, sortWorld enc w b 0 q d os = grow (putRow id (Sort.ahead w q) b 0 (d.map enc)) os := fun d q os => by
   unfold sortWorld
   rw [put_map]
  have hsep : ∀ e ∈ G, e.sat w ∧ ¬ e.foot b := fun e he => ⟨hm.sat e (List.mem_cons_of_mem _ he), fun hf => (List.pairwise_cons.1 hm.sep).1 e he (.inl trivial) b ⟨⟨b, 0, none⟩, rfl, rfl⟩ hf⟩
  have hcmp : CmpLays1 Tryz.prog g cb.toArray enc (fun i j => cf fs[i] fs[j]) b 0 (List.finRange fs.length).toArray.size w := fun m os dk hdk x y => by
   have h := hp fs[x] (List.getElem_mem _) fs[y] (List.getElem_mem _)
   have h2 := pure_calls h (w := sortWorld enc w b 0 m dk os) fun e he => by
    obtain ⟨h3, h4⟩ := hsep e he
    refine e.loc w _ (fun k hk => ?_) h3
    rw [hsw]
    exact (grownBy_flat (dk.map enc)).block k (e.lt w k h3 hk) (fun e1 => h4 (by cases e1; exact hk))
   rwa [← List.append_toArray] at h2
  have hO : SWO (ltOf fun i j : Fin fs.length => cf fs[i] fs[j]) := by
   refine ⟨fun x => ?_, fun x y z h1 h2 => ?_, fun x y z h1 h2 => ?_⟩
   ·exact decide_eq_false (hi _ (List.getElem_mem _))
   ·exact decide_eq_true (ht _ (List.getElem_mem _) _ (List.getElem_mem _) _ (List.getElem_mem _) (of_decide_eq_true h1) (of_decide_eq_true h2))
   ·exact decide_eq_false (hnt _ (List.getElem_mem _) _ (List.getElem_mem _) _ (List.getElem_mem _) (of_decide_eq_false h1) (of_decide_eq_false h2))
  have hcall := Tryz.slices_SortFunc enc (fun i => rfl) _ hO g cb.toArray b 0 c (List.finRange fs.length).toArray w (hp _ (List.getElem_mem hlp) _ (List.getElem_mem hlp)).ent hcmp hH hg (by rw [hd0]; omega)
  rw [hd0] at hcall
  refine hcall.mono fun e w' ⟨h4, d', q, os, hpm, hst, h5⟩ => ?_
  subst h4
  obtain ⟨hp1, _, hp3⟩ := hpm
  rw [hd0] at hp1
  have hperm : (d'.toList.map fun i => fs[i]).Perm fs := by
   have h6 : d'.toList.Perm (List.finRange fs.length) := by
    have e1 : d'.extract 0 fs.length = d' := (congrArg (fun z => d'.extract 0 z) hp1).symm.trans Array.extract_size
    have e2 : (List.finRange fs.length).toArray.extract 0 fs.length = (List.finRange fs.length).toArray := by
     have := Array.extract_size (xs := (List.finRange fs.length).toArray)
     rwa [hd0] at this
    rw [e1, e2] at hp3
    exact hp3
   have h7 := h6.map fun i => fs[i]
   rwa [finR_map] at h7
  have hgl := hperm.length_eq
  have hfl2 := henc d'
  rw [hsw] at h5
  have hgr : w.grownBy w' (some b) := by rw [h5]; exact grownBy_flat _
  have hown : w'.ownsRow 0 22 1 (.slice (some ⟨b, 0, none⟩) (hdrs (d'.toList.map fun i => fs[i])).length c) (hdrs (d'.toList.map fun i => fs[i])).length (hdrs (d'.toList.map fun i => fs[i])) := by
   have hh2 := heap_flat (n := q) (os := os) (d'.map enc) hh
   rw [← h5, hfl2] at hh2
   refine ⟨by rw [Nat.mul_one], .inr ⟨b, c, _, rfl, hb, hh2, by rw [hdrs_length, hgl]; exact hc, hmx, by simp [putCells, hs], ?_⟩⟩
   have h8 := take_flat cur (hdrs (d'.toList.map fun i => fs[i])) (by rw [hdrs_length, hgl, hs]; omega)
   rw [Nat.mul_one]
   exact h8
  refine ⟨_, _, rfl, ⟨_, rfl, _, rfl, rfl, hperm⟩, ?_, ⟨trivial, trivial⟩⟩
  have hm1 : Mem (ownd [ow (some ⟨b, 0, none⟩) 22 c (hdrs fs)]) w w [ow (some ⟨b, 0, none⟩) 22 c (hdrs fs)] := (CSub.cons _ (CSub.nil _)).mem hm
  exact hm1.change trivial ⟨hgr.os, hgr.tape, hgr.output, hgr.size, fun k hk hf => hgr.block k hk (fun e => hf ⟨⟨b, 0, none⟩, rfl, by simpa using e.symm⟩)⟩ hown (fun k hk => .inl hk)⟩
end Go.Proofs.YtdkahdehodopoaaGreat

namespace Go.Proofs.YtdkahdehodopoaaGreat
open Go.RowKit
section
variable {p m : Int} {mod : List Int} [hF : IsF p m mod]
open Po
noncomputable def dvS (P : Po (El p m mod)) (k : Nat) (ds : List (Po (El p m mod))) : List (Po (El p m mod)) := ds.flatMap fun d => (List.range (k + 1)).map fun i => d * Rg.pow P i
noncomputable def dvL (p m : Int) (mod : List Int) [hF : IsF p m mod] (gs : List FacM) : Nat → List (Po (El p m mod))
 | 0 => [1]
 | i + 1 => dvS (fcP p m mod (gs.getD i facD)) (gs.getD i facD).k.toNat (dvL p m mod gs i)
theorem mem_dvS {P : Po (El p m mod)} {k : Nat} {ds : List (Po (El p m mod))} {x : Po (El p m mod)} : x ∈ dvS P k ds ↔ ∃ d ∈ ds, ∃ i, i ≤ k ∧ d * Rg.pow P i = x := by
 rw [dvS, List.mem_flatMap]
 constructor
 ·rintro ⟨d, hd, hx⟩
  obtain ⟨i, hi, rfl⟩ := List.mem_map.1 hx
  exact ⟨d, hd, i, by have := List.mem_range.1 hi; omega, rfl⟩
 ·rintro ⟨d, hd, i, hi, rfl⟩
  exact ⟨d, hd, List.mem_map.2 ⟨i, List.mem_range.2 (by omega), rfl⟩⟩
theorem dvS_length (P : Po (El p m mod)) (k : Nat) : ∀ ds : List (Po (El p m mod)), (dvS P k ds).length = ds.length * (k + 1)
 | [] => by simp [dvS]
 | d :: ds => by
  have ih := dvS_length P k ds
  rw [dvS] at ih
  rw [dvS, List.flatMap_cons, List.length_append, ih, List.length_map, List.length_range, List.length_cons, Nat.add_mul, Nat.one_mul]; omega
theorem lead_powO {P : Po (El p m mod)} (h : lead P = 1) : ∀ n, lead (Rg.pow P n) = 1
 | 0 => by
  show lead (1 : Po (El p m mod)) = 1
  rw [lead, len_one, cf_one, if_pos rfl]
 | n + 1 => by
  have h0 := lead1_ne h
  rw [show Rg.pow P (n + 1) = Rg.pow P n * P from rfl, lead_mul (lead1_ne (lead_powO h n)) h0, lead_powO h n, h, Rg.one_mul]
theorem lead_oneO : lead (1 : Po (El p m mod)) = 1 := lead_powO (P := 1) (by rw [lead, len_one, cf_one, if_pos rfl]) 0
structure DvI (f : Po (El p m mod)) (gs : List FacM) (i : Nat) (ds : List (Po (El p m mod))) : Prop where
 mem : ∀ d, d ∈ ds ↔ lead d = 1 ∧ (∀ P, Ir P → lead P = 1 → mu P d ≤ mu P f) ∧ ∀ P, Ir P → lead P = 1 → 1 ≤ mu P d → ∃ j, j < i ∧ j < gs.length ∧ P = fcP p m mod (gs.getD j facD)
 nd : ds.Nodup
theorem CmI.inj {f : Po (El p m mod)} {gs : List FacM} (h : CmI f gs) (hf : f ≠ 0) {i j : Nat} (hi : i < gs.length) (hj : j < gs.length) (e : fcP p m mod (gs.getD i facD) = fcP p m mod (gs.getD j facD)) : i = j := by
 have hx : (gs.getD i facD).r.xs = (gs.getD j facD).r.xs := by rw [(h.fc hf (getD_mem hi facD)).2.2.2.1, (h.fc hf (getD_mem hj facD)).2.2.2.1, e]
 have hn := List.pairwise_iff_getElem.1 (List.nodup_iff_pairwise_ne.1 h.nd)
 have g : ∀ k (hk : k < gs.length), (gs.map fun e => e.r.xs)[k]'(by simpa using hk) = (gs.getD k facD).r.xs := fun k hk => by
  rw [List.getElem_map, List.getD_eq_getElem?_getD, List.getElem?_eq_getElem hk]; rfl
 rcases Nat.lt_trichotomy i j with hlt | heq | hgt
 ·exact absurd (by rw [g i hi, g j hj, hx]) (hn i j (by simpa using hi) (by simpa using hj) hlt)
 ·exact heq
 ·exact absurd (by rw [g i hi, g j hj, hx]) (hn j i (by simpa using hj) (by simpa using hi) hgt)
theorem DvI.start {f : Po (El p m mod)} {gs : List FacM} : DvI f gs 0 [1] := ⟨fun d => by
 rw [List.mem_singleton]
 constructor
 ·rintro rfl
  exact ⟨lead_oneO, fun P hP _ => by rw [mu_one hP]; omega, fun P hP _ h => by rw [mu_one hP] at h; omega⟩
 ·rintro ⟨h1, _, h3⟩
  refine one_of_len h1 (len_one_of_mu (lead1_ne h1) fun P hP hl => ?_)
  rcases Nat.eq_zero_or_pos (mu P d) with h | h
  ·exact h
  ·obtain ⟨j, hj, _⟩ := h3 P hP hl h
   omega, by simp⟩
open Classical in
theorem DvI.next {f : Po (El p m mod)} {gs : List FacM} {i : Nat} {ds : List (Po (El p m mod))} (h : DvI f gs i ds) (hC : CmI f gs) (hf : f ≠ 0) (hi : i < gs.length) : DvI f gs (i + 1) (dvS (fcP p m mod (gs.getD i facD)) (gs.getD i facD).k.toNat ds) := by
 obtain ⟨hP, hPl, hPf, _, hk, hk1⟩ := hC.fc hf (getD_mem hi facD)
 have hkk : (gs.getD i facD).k.toNat = mu (fcP p m mod (gs.getD i facD)) f := by omega
 rw [hkk]
 generalize hPe : fcP p m mod (gs.getD i facD) = P at hP hPl hPf hk
 have h0 := lead1_ne hPl
 have hz : ∀ d ∈ ds, mu P d = 0 := fun d hd => by
  rcases Nat.eq_zero_or_pos (mu P d) with e | e
  ·exact e
  ·obtain ⟨j, hj, hj2, e2⟩ := ((h.mem d).1 hd).2.2 P hP hPl e
   have := hC.inj hf hi hj2 (by rw [hPe, ← e2])
   omega
 have hd0 : ∀ d ∈ ds, d ≠ 0 := fun d hd => lead1_ne ((h.mem d).1 hd).1
 have hmu : ∀ d ∈ ds, ∀ Q, Ir Q → lead Q = 1 → ∀ t, mu Q (d * Rg.pow P t) = mu Q d + t * if Q = P then 1 else 0 := fun d hd Q hQ hQl t => by
  rw [mu_mul hQ (hd0 d hd) (pow_ne0 h0 t), mu_pow hQ h0, mu_ir hQ hP hQl hPl]
 have hmuP : ∀ d ∈ ds, ∀ t, mu P (d * Rg.pow P t) = t := fun d hd t => by rw [hmu d hd P hP hPl, hz d hd, if_pos rfl]; omega
 refine ⟨fun x => ?_, ?_⟩
 ·rw [mem_dvS]
  constructor
  ·rintro ⟨d, hd, t, ht, rfl⟩
   obtain ⟨a1, a2, a3⟩ := (h.mem d).1 hd
   refine ⟨by rw [lead_mul (hd0 d hd) (pow_ne0 h0 t), a1, lead_powO hPl, Rg.one_mul], fun Q hQ hQl => ?_, fun Q hQ hQl h1 => ?_⟩
   ·by_cases e : Q = P
    ·rw [e, hmuP d hd]; exact ht
    ·rw [hmu d hd Q hQ hQl, if_neg e]; have := a2 Q hQ hQl; omega
   ·by_cases e : Q = P
    ·exact ⟨i, by omega, hi, by rw [e, hPe]⟩
    ·rw [hmu d hd Q hQ hQl, if_neg e] at h1
     obtain ⟨j, b1, b2, b3⟩ := a3 Q hQ hQl (by omega)
     exact ⟨j, by omega, b2, b3⟩
  ·rintro ⟨a1, a2, a3⟩
   have hx0 := lead1_ne a1
   obtain ⟨b, hb1, hb2⟩ := mu_split hP hx0
   have hb0 : b ≠ 0 := fun e => hx0 (by rw [hb1, e, Rg.mul_zero])
   have hbl : lead b = 1 := by
    have := a1
    rw [hb1, lead_mul (pow_ne0 h0 _) hb0, lead_powO hPl, Rg.one_mul] at this
    exact this
   have hmb : ∀ Q, Ir Q → lead Q = 1 → mu Q x = mu P x * (if Q = P then 1 else 0) + mu Q b := fun Q hQ hQl => by
    have e := congrArg (mu Q) hb1
    rw [mu_mul hQ (pow_ne0 h0 _) hb0, mu_pow hQ h0, mu_ir hQ hP hQl hPl] at e
    exact e
   refine ⟨b, (h.mem b).2 ⟨hbl, fun Q hQ hQl => ?_, fun Q hQ hQl h1 => ?_⟩, mu P x, a2 P hP hPl, by rw [Rg.mul_comm]; exact hb1.symm⟩
   ·have e1 := hmb Q hQ hQl
    have e2 := a2 Q hQ hQl
    omega
   ·have hne : Q ≠ P := fun e => hb2 (by rw [← e]; exact (mu_pos hQ hb0).2 h1)
    have e1 := hmb Q hQ hQl
    rw [if_neg hne] at e1
    obtain ⟨j, c1, c2, c3⟩ := a3 Q hQ hQl (by omega)
    refine ⟨j, ?_, c2, c3⟩
    rcases Nat.lt_or_ge j i with hlt | hge
    ·exact hlt
    ·have : j = i := by omega
     subst this
     exact absurd (c3.trans hPe) hne
 ·rw [List.nodup_iff_pairwise_ne, dvS, List.pairwise_flatMap]
  refine ⟨fun d hd => ?_, ?_⟩
  ·rw [List.pairwise_map]
   refine (List.nodup_iff_pairwise_ne.1 List.nodup_range).imp fun {a b} hab e => hab ?_
   rw [← hmuP d hd a, e, hmuP d hd b]
  ·refine (List.nodup_iff_pairwise_ne.1 h.nd).imp_of_mem fun {a b} ha hb hab x hx y hy e => hab ?_
   obtain ⟨s, _, rfl⟩ := List.mem_map.1 hx
   obtain ⟨t, _, rfl⟩ := List.mem_map.1 hy
   have hst : s = t := by rw [← hmuP a ha s, e, hmuP b hb t]
   rw [hst, Rg.mul_comm a, Rg.mul_comm b] at e
   exact mul_cancel (pow_ne0 h0 t) e
theorem dvL_inv {f : Po (El p m mod)} {gs : List FacM} (hC : CmI f gs) (hf : f ≠ 0) : ∀ i, i ≤ gs.length → DvI f gs i (dvL p m mod gs i)
 | 0, _ => DvI.start
 | i + 1, h => (dvL_inv hC hf i (by omega)).next hC hf (by omega)
theorem dvL_mem {f : Po (El p m mod)} {gs : List FacM} (hC : CmI f gs) (hf : f ≠ 0) (d : Po (El p m mod)) : d ∈ dvL p m mod gs gs.length ↔ lead d = 1 ∧ d ∣ f := by
 rw [(dvL_inv hC hf gs.length (Nat.le_refl _)).mem]
 constructor
 ·rintro ⟨h1, h2, _⟩
  exact ⟨h1, dvd_of_mu (lead1_ne h1) hf h2⟩
 ·rintro ⟨h1, h2⟩
  have h0 := lead1_ne h1
  refine ⟨h1, fun P hP _ => mu_mono hP hf h2, fun P hP hPl h => ?_⟩
  obtain ⟨e, he, hx⟩ := hC.all P hP hPl (dvd_trans ((mu_pos hP h0).2 h) h2)
  obtain ⟨j, hj, rfl⟩ := List.getElem_of_mem he
  refine ⟨j, hj, hj, ?_⟩
  rw [List.getD_eq_getElem?_getD, List.getElem?_eq_getElem hj]
  show P = pol (gs[j]).r.xs
  rw [hx, pol_il]
def prK (gs : List FacM) : Nat → Nat
 | 0 => 1
 | i + 1 => prK gs i * ((gs.getD i facD).k.toNat + 1)
theorem dvL_length (gs : List FacM) : ∀ i, (dvL p m mod gs i).length = prK gs i
 | 0 => rfl
 | i + 1 => by rw [dvL, dvS_length, dvL_length gs i, prK]
theorem prK_pos (gs : List FacM) : ∀ i, 1 ≤ prK gs i
 | 0 => Nat.le_refl _
 | i + 1 => by rw [prK]; exact Nat.mul_pos (prK_pos gs i) (by omega)
theorem prK_mono (gs : List FacM) {i j : Nat} (h : i ≤ j) : prK gs i ≤ prK gs j := by
 induction h with
 | refl => exact Nat.le_refl _
 | step _ ih => rw [prK]; exact Nat.le_trans ih (Nat.le_mul_of_pos_right _ (by omega))
end
theorem nd_le {α : Type} : ∀ {l k : List α}, l.Nodup → (∀ x ∈ l, x ∈ k) → l.length ≤ k.length
 | [], k, _, _ => Nat.zero_le _
 | x :: l, k, hn, hs => by
  obtain ⟨s, t, rfl⟩ := List.append_of_mem (hs x (by simp))
  have h1 := List.nodup_cons.1 hn
  have h2 := nd_le (k := s ++ t) h1.2 fun y hy => by
   rcases List.mem_append.1 (hs y (List.mem_cons_of_mem _ hy)) with h | h
   ·exact List.mem_append_left _ h
   ·rcases List.mem_cons.1 h with rfl | h
    ·exact absurd hy h1.1
    ·exact List.mem_append_right _ h
  simp only [List.length_append, List.length_cons] at h2 ⊢
  omega
section
variable {p m : Int} {mod : List Int} [hF : IsF p m mod]
open Po
noncomputable def mnL (p m : Int) (mod : List Int) [hF : IsF p m mod] (k : Nat) : List (Po (El p m mod)) := (List.range (k + 1)).flatMap fun d => (List.range ((pw p m).toNat ^ d)).map (dgP p m mod d)
theorem mnL_len : ∀ k, (mnL p m mod k).length < 2 * (pw p m).toNat ^ k
 | 0 => by simp [mnL]
 | k + 1 => by
  have hq : 2 ≤ (pw p m).toNat := by have := hF.q2; omega
  have ih := mnL_len k
  rw [mnL] at ih
  rw [mnL, List.range_succ, List.flatMap_append, List.length_append]
  simp only [List.flatMap_cons, List.flatMap_nil, List.append_nil, List.length_map, List.length_range]
  rw [Nat.pow_succ] at *
  have := Nat.mul_le_mul_left ((pw p m).toNat ^ k) hq
  omega
theorem mem_mnL {k : Nat} {d : Po (El p m mod)} (h1 : lead d = 1) (hl : len d ≤ k + 1) : d ∈ mnL p m mod k := by
 have h0 := len_pos (lead1_ne h1)
 obtain ⟨v, hv, hd⟩ := dgP_surj (n := len d - 1) (f := d) (by omega) h1
 exact List.mem_flatMap.2 ⟨len d - 1, List.mem_range.2 (by omega), List.mem_map.2 ⟨v, List.mem_range.2 hv, hd⟩⟩
theorem dv_count {f : Po (El p m mod)} {n : Nat} (hl : len f = n + 1) (h1 : lead f = 1) {ds : List (Po (El p m mod))} (hn : ds.Nodup) (hd : ∀ d ∈ ds, lead d = 1 ∧ d ∣ f) : ds.length ≤ 4 * (pw p m).toNat ^ (n / 2) := by
 have hf := lead1_ne h1
 let φ : Po (El p m mod) → Po (El p m mod) × Bool := fun d => if len d ≤ n / 2 + 1 then (d, false) else (quo f d, true)
 have h2 : (ds.map φ).Nodup := by
  rw [List.nodup_iff_pairwise_ne, List.pairwise_map]
  refine (List.nodup_iff_pairwise_ne.1 hn).imp_of_mem fun {a b} ha hb hab e => hab ?_
  simp only [φ] at e
  split at e <;> split at e <;> simp only [Prod.mk.injEq, Bool.false_eq_true, Bool.true_eq_false, and_false, and_true] at e
  ·exact e
  ·have ea := quo_mul (lead1_ne (hd a ha).1) (hd a ha).2
   have eb := quo_mul (lead1_ne (hd b hb).1) (hd b hb).2
   rw [e] at ea
   exact mul_cancel (f := quo f b) (fun z => hf (by rw [← eb, z, Rg.zero_mul])) (ea.trans eb.symm)
 have h3 := nd_le (k := (mnL p m mod (n / 2)).map (·, false) ++ (mnL p m mod (n / 2)).map (·, true)) h2 fun x hx => by
  obtain ⟨d, hdm, rfl⟩ := List.mem_map.1 hx
  obtain ⟨a, b⟩ := hd d hdm
  simp only [φ]
  split
  ·rename_i hle
   exact List.mem_append_left _ (List.mem_map.2 ⟨d, mem_mnL a hle, rfl⟩)
  ·rename_i hgt
   have hd0 := lead1_ne a
   have e := quo_mul hd0 b
   have hq0 : quo f d ≠ 0 := fun z => hf (by rw [← e, z, Rg.zero_mul])
   have e1 := congrArg len e
   rw [len_mul hq0 hd0, hl] at e1
   have e2 := congrArg lead e
   rw [lead_mul hq0 hd0, a, Rg.mul_one, h1] at e2
   exact List.mem_append_right _ (List.mem_map.2 ⟨quo f d, mem_mnL e2 (by omega), rfl⟩)
 simp only [List.length_map, List.length_append] at h3
 have h4 := mnL_len (p := p) (m := m) (mod := mod) (n / 2)
 omega
theorem CmI.few {f : Po (El p m mod)} {gs : List FacM} {n : Nat} (hC : CmI f gs) (hl : len f = n + 1) (h1 : lead f = 1) : prK gs gs.length ≤ 4 * (pw p m).toNat ^ (n / 2) := by
 have hf := lead1_ne h1
 rw [← dvL_length (p := p) (m := m) (mod := mod)]
 exact dv_count hl h1 (dvL_inv hC hf gs.length (Nat.le_refl _)).nd fun d hd => (dvL_mem hC hf d).1 hd
end
theorem flt_one {α : Type} {P : α → Bool} : ∀ {l : List α}, l.Nodup → (∀ x ∈ l, ∀ y ∈ l, P x = true → P y = true → x = y) → (l.filter P).length ≤ 1
 | [], _, _ => by simp
 | x :: l, hn, h => by
  have h1 := List.nodup_cons.1 hn
  have ih := flt_one h1.2 fun a ha b hb => h a (List.mem_cons_of_mem _ ha) b (List.mem_cons_of_mem _ hb)
  by_cases e : P x = true
  ·rw [List.filter_cons_of_pos e]
   have : l.filter P = [] := List.filter_eq_nil_iff.2 fun y hy hp => h1.1 (by rw [h x (by simp) y (List.mem_cons_of_mem _ hy) e hp]; exact hy)
   rw [this]; simp
  ·rw [List.filter_cons_of_neg e]; exact ih
theorem flt_ex {α : Type} {P : α → Bool} {l : List α} {x : α} (h : x ∈ l) (hp : P x = true) : 1 ≤ (l.filter P).length := List.length_pos_of_mem (List.mem_filter.2 ⟨h, hp⟩)
theorem flt_no {α : Type} {P : α → Bool} {l : List α} (h : ∀ x ∈ l, P x ≠ true) : (l.filter P).length = 0 := by
 rw [List.filter_eq_nil_iff.2 h]; rfl
end Go.Proofs.YtdkahdehodopoaaGreat

set_option maxRecDepth 100000
namespace Go.Proofs.YtdkahdehodopoaaGreat
open Go.RowKit
def prI (l : List Int) : Int := l.foldr (· * ·) 1
theorem prI_snoc (l : List Int) (x : Int) : prI (l ++ [x]) = prI l * x := by
 induction l with
 | nil => simp [prI]
 | cons a l ih =>
  show a * prI (l ++ [x]) = a * prI l * x
  rw [ih, Int.mul_assoc]
theorem prI_take {l : List Int} {i : Nat} (h : i < l.length) : prI (l.take (i + 1)) = prI (l.take i) * l.getD i 0 := by
 rw [List.take_add_one, List.getElem?_eq_getElem h, Option.toList_some, prI_snoc, List.getD_eq_getElem?_getD, List.getElem?_eq_getElem h]; rfl
theorem prI_pos {l : List Int} (h : ∀ z ∈ l, 1 ≤ z) : 1 ≤ prI l := by
 induction l with
 | nil => exact Int.le_refl _
 | cons a l ih =>
  have h1 := ih fun z hz => h z (by simp [hz])
  have h2 := h a (by simp)
  exact Int.mul_pos (show 0 < a by omega) (show 0 < prI l by omega)
theorem prI_le {l : List Int} (h : ∀ z ∈ l, 1 ≤ z) (i : Nat) : prI (l.take i) ≤ prI l := by
 have e : ∀ a b : List Int, prI (a ++ b) = prI a * prI b := fun a b => by
  induction a with
  | nil => simp [prI]
  | cons x a ih =>
   show x * prI (a ++ b) = x * prI a * prI b
   rw [ih, Int.mul_assoc]
 conv => rhs; rw [← List.take_append_drop i l, e]
 have h1 := prI_pos (l := l.take i) fun z hz => h z (List.mem_of_mem_take hz)
 have h2 := prI_pos (l := l.drop i) fun z hz => h z (List.mem_of_mem_drop hz)
 have := Int.mul_le_mul_of_nonneg_left h2 (show 0 ≤ prI (l.take i) by omega)
 omega
theorem any_neg {l : List Int} (h : ∀ z ∈ l, 1 ≤ z) : l.any (fun x => decide (x < 0)) = false := by
 rw [List.any_eq_false]
 intro x hx
 have := h x hx
 simp; omega
instance Rd.rowX (F : List Chunk) (r : RowM) (rs : List RowM) [h : RowIn r rs] : Rd (rowsX rs :: F) r.A (ints r.xs) := ⟨fun _ _ _ hm => hm.sat (rowsX rs) (List.mem_cons_self ..) _ h.mem, fun b hb => ⟨_, List.mem_cons_self .., _, h.mem, hb⟩⟩
theorem rowsX_sub {rs qs : List RowM} (h : ∀ r ∈ qs, r ∈ rs) (F : List Chunk) : CSub (rowsX rs :: F) (rowsX qs :: F) :=
 CSub.weak (c := rowsX rs) (d := rowsX qs) ⟨fun w hs r hr => hs r (h r hr), fun b hb => by
  obtain ⟨r, hr, hf⟩ := hb
  exact ⟨r, h r hr, hf⟩, fun h => h⟩ F
theorem rowsX_snoc {e : TypeId} {rs : List RowM} {r : RowM} (F : List Chunk) : CSub (rowsX rs :: ow r.A e r.cap (ints r.xs) :: F) (rowsX (rs ++ [r]) :: F) := fun M w0 w Z hm => by
 have hsep := hm.sep
 simp only [List.cons_append, List.pairwise_cons] at hsep
 have hft : ∀ b, (rowsX (rs ++ [r])).foot b → (rowsX rs).foot b ∨ (ow r.A e r.cap (ints r.xs)).foot b := fun b hb => by
  obtain ⟨s, hs, hf⟩ := hb
  rcases List.mem_append.1 hs with hs | hs
  ·exact .inl ⟨s, hs, hf⟩
  ·simp only [List.mem_singleton] at hs
   subst hs; exact .inr hf.2
 refine ⟨hm.upd, fun c hc => ?_, ?_, fun c hc hex b hb => ?_⟩
 ·rcases List.mem_cons.1 hc with rfl | hc
  ·intro s hs
   rcases List.mem_append.1 hs with hs | hs
   ·exact hm.sat (rowsX rs) (by simp) s hs
   ·simp only [List.mem_singleton] at hs
    subst hs
    exact ow_reads (hm.sat (ow s.A e s.cap (ints s.xs)) (by simp))
  ·exact hm.sat c (by simp only [List.cons_append, List.mem_cons]; exact .inr (.inr hc))
 ·simp only [List.cons_append, List.pairwise_cons]
  refine ⟨fun c hc hex b hb => ?_, hsep.2.2⟩
  rcases hft b hb with hb | hb
  ·exact hsep.1 c (List.mem_cons_of_mem _ hc) (.inl trivial) b hb
  ·exact hsep.2.1 c hc (.inl trivial) b hb
 ·rcases List.mem_cons.1 hc with rfl | hc
  ·rcases hft b hb with hb | hb
   ·exact hm.own (rowsX rs) (by simp) trivial b hb
   ·exact hm.own (ow r.A e r.cap (ints r.xs)) (by simp) trivial b hb
  ·exact hm.own c (by simp only [List.cons_append, List.mem_cons]; exact .inr (.inr hc)) hex b hb
theorem rowsX_one {e : TypeId} {r : RowM} (F : List Chunk) : CSub (ow r.A e r.cap (ints r.xs) :: F) (rowsX [r] :: F) :=
 CSub.weak (c := ow r.A e r.cap (ints r.xs)) (d := rowsX [r]) ⟨fun w hs s h => by
  simp only [List.mem_singleton] at h
  subst h; exact ow_reads hs, fun b hb => by
  obtain ⟨s, h, hf⟩ := hb
  simp only [List.mem_singleton] at h
  subst h; exact hf.2, fun _ => trivial⟩ F
theorem xrow_app {c0 : Chunk} {e : TypeId} {al : List RowM} {r : RowM} {F F0 : List Chunk} [h : Cs F (c0 :: rowsX al :: ow r.A e r.cap (ints r.xs) :: F0)] : CSub F (c0 :: rowsX (al ++ [r]) :: F0) :=
 h.sub.trans (CSub.cons _ (rowsX_snoc _))
theorem tr_nilU {P : Program} {N : NR} {M : Nat → Prop} {w0 : World} {L : Fr} {F : List Chunk} (t : TypeId) {c : Code} {Q : Exit → Fr → List Chunk → Prop} (h : Tr P N M w0 c L (ow none t 0 (hdrs []) :: F) Q) : Tr P N M w0 c L F Q := tr_nil t h
theorem num_Prod1_ent : Enters Tryz.prog 52 := enters_of Tryz.func52 (by kernel_rfl) (by kernel_rfl)
theorem num_Prod1 (x : Int) :
  Pure Tryz.prog 52 #[.int .i64 x] [] (isV (.bool (decide (x < 0)))) := by
 refine pure_of (args := [.int .i64 x]) 5 Tryz.func52 rfl rfl rfl num_Prod1_ent trivial (fun w0 => ?_)
 refine tS ?_
 refine tR fun _ _ _ => ?_
 refine pV ?_
 refine tS ?_
 refine tR fun _ _ _ => ?_
 iterate 3 refine pV ?_
 exact tr_ret ⟨trivial, _, _, rfl, ⟨rfl, rfl⟩, CSub.nil _, trivial⟩
theorem slc_Contains_ent : Enters Tryz.prog 53 := enters_of Tryz.func53 (by kernel_rfl) (by kernel_rfl)
theorem slc_Contains (A : Option Addr) (n c : Nat) (l : List Int) (hn : n = l.length) (h9 : l.length ≤ 1000000) (x : Int) :
  Pure Tryz.prog 53 #[.slice A n c, .int .i64 x] [ro A (ints l)] (isV (.bool (decide (0 ≤ idxI l x)))) := by
 refine pure_of (args := [.slice A n c, .int .i64 x]) 9 Tryz.func53 rfl rfl rfl slc_Contains_ent ⟨id, trivial⟩ (fun w0 => ?_)
 refine tS ?_
 refine tR fun _ _ _ => ?_
 refine pV ?_
 refine tS ?_
 refine tR fun _ _ _ => ?_
 iterate 2 refine pV ?_
 refine eV (eCallV rfl rfl rfl (slc_Index A n c l hn h9 x) ⟨rfl, rfl, trivial⟩ ?_)
 iterate 2 refine pV ?_
 exact tr_ret ⟨trivial, _, _, rfl, ⟨rfl, rfl⟩, CSub.nil _, trivial⟩
theorem num_ProductG_ent : Enters Tryz.prog 20 := enters_of Tryz.func20 (by kernel_rfl) (by kernel_rfl)
theorem num_ProductG (A : Option Addr) (n c : Nat) (l : List Int) (hn : n = l.length) (h9 : l.length ≤ 1000000) (lim : Int) (hl0 : 0 ≤ lim) (hl9 : lim ≤ 1000000000) (hpos : ∀ z ∈ l, 1 ≤ z) (hP : prI l ≤ lim) :
  Pure Tryz.prog 20 #[.int .i64 lim, .slice A n c] [ro A (ints l)] (isV (.tuple #[.int .i64 (prI l), .int .i64 0])) := by
 have hna := any_neg hpos
 have hn0 : idxI l 0 = -1 := by
  unfold idxI
  rw [if_neg fun h => by have := hpos 0 h; omega]
 have hle := prI_le hpos
 refine pure_of (args := [.int .i64 lim, .slice A n c]) 36 Tryz.func20 rfl rfl rfl num_ProductG_ent ⟨id, trivial⟩ (fun w0 => ?_)
 refine tS ?_
 refine tR fun _ _ _ => ?_
 iterate 2 refine pV ?_
 refine tS ?_
 refine tS ?_
 refine tR fun _ _ _ => ?_
 iterate 3 refine pV ?_
 refine stT rfl rfl rfl (by simp; omega) rfl rfl (rMove rfl rfl) ?_
 refine efT rfl rfl rfl (by simp; omega) (eCallV rfl rfl rfl (slc_ContainsFunc A n c l hn (by omega) 52 [] [] (fun x => decide (x < 0)) (fun x hx => num_Prod1 x)) ⟨rfl, rfl, trivial⟩ ?_)
 rw [hna]
 refine sV (rPick0 rfl rfl (by simp; omega) rfl) ?_
 refine tC rfl (fun h1 => ?_) (fun h1 => ?_)
 ·try simp only [zbA] at h1
  exact absurd h1 (by simp) --done
 ·try simp only [zbA] at h1
  refine tK ?_
  refine tS ?_
  refine tS ?_
  refine tR fun _ _ _ => ?_
  refine pV ?_
  refine eV (eCallV rfl rfl rfl (slc_Contains A n c l hn h9 0) ⟨rfl, rfl, trivial⟩ ?_)
  refine tC rfl (fun h3 => ?_) (fun h3 => ?_)
  ·try simp only [zbA] at h3
   rw [hn0] at h3; exact absurd h3 (by simp) --done
  ·try simp only [zbA] at h3
   refine tK ?_
   refine tS ?_
   refine tR fun _ _ _ => ?_
   refine pV ?_
   refine tS ?_
   refine tS ?_
   refine tR fun _ _ _ => ?_
   refine pV ?_
   refine sV (rLen rfl rfl) ?_
   refine pV ?_
   refine tB ?_
   refine tr_loop2 (fun (i : Int) (s : Int) => [(6, .int .i64 s), (19, .int .i64 i), (0, .int .i64 lim), (17, .slice A n c), (18, .int .i64 n)]) (fun (i : Int) (s : Int) => [ro A (ints l)]) (fun (i : Int) (s : Int) => (0 ≤ i ∧ i ≤ n) ∧ s = prI (l.take i.toNat)) (fun (i : Int) (s : Int) => (n - i).toNat) (0) (1) ⟨rfl, rfl, rfl, rfl, rfl, trivial⟩ (by first | exact cs _ _ | exact CSub.refl _) (⟨⟨by omega, by omega⟩, rfl⟩) (fun i s hI => ?_)
   obtain ⟨⟨hi0, hi1⟩, hs⟩ := hI
   refine tS ?_
   refine tR fun _ _ _ => ?_
   refine pV ?_
   refine tS ?_
   refine tC rfl (fun h7 => ?_) (fun h7 => ?_)
   ·try simp only [zbA] at h7
    refine tK ?_
    refine tS ?_
    refine tB ?_
    refine tS ?_
    have hzi := hpos _ (getD_mem (show i.toNat < l.length by omega) 0)
    have hts := prI_take (l := l) (i := i.toNat) (by omega)
    have hl1 := hle (i.toNat + 1)
    rw [hts, ← hs] at hl1
    have hsp : 1 ≤ s := by rw [hs]; exact prI_pos fun z hz => hpos z (List.mem_of_mem_take hz)
    have hsd : s ≤ lim / l.getD i.toNat 0 := Int.le_ediv_of_mul_le (by omega) (by omega)
    have hdl := Int.ediv_le_self (b := l.getD i.toNat 0) hl0
    have hm0 : 0 ≤ s * l.getD i.toNat 0 := Int.mul_nonneg (by omega) (by omega)
    refine tR fun _ _ _ => ?_
    refine sV (rIdxI rfl rfl rfl (by omega) (by omega) (by omega)) ?_
    refine sV (rLdI rfl rfl (by omega)) ?_
    refine pV ?_
    refine tS ?_
    refine tS ?_
    refine tR fun _ _ _ => ?_
    iterate 3 refine pV ?_
    refine sV (rQuo rfl rfl rfl (by omega) (by omega)) ?_
    refine pV ?_
    refine tC rfl (fun h9 => ?_) (fun h9 => ?_)
    ·try simp only [zbA] at h9
     omega --done
    ·try simp only [zbA] at h9
     refine tK ?_
     refine tR fun _ _ _ => ?_
     iterate 2 refine pV ?_
     refine sV (rMul rfl rfl rfl (by omega) (by omega)) ?_
     refine pV ?_
     refine tR fun _ _ _ => ?_
     refine sV (rAdd rfl rfl rfl (by omega) (by omega)) ?_
     refine pV ?_
     refine ⟨i + 1, s * l.getD i.toNat 0, ⟨rfl, rfl, rfl, rfl, rfl, trivial⟩, by first | exact cs _ _ | exact CSub.refl _, ?_⟩
     exact ⟨⟨⟨by omega, by omega⟩, by rw [show (i + 1).toNat = i.toNat + 1 by omega, hts, hs]⟩, by omega⟩
   ·try simp only [zbA] at h7
    refine tE ?_
    refine tS ?_
    refine tS ?_
    have hie : i.toNat = l.length := by omega
    rw [hie, List.take_length] at hs
    subst hs
    refine tR fun _ _ _ => ?_
    iterate 3 refine pV ?_
    refine tC rfl (fun h13 => ?_) (fun h13 => ?_)
    ·try simp only [zbA] at h13
     omega --done
    ·try simp only [zbA] at h13
     refine tK ?_
     refine tS ?_
     refine tR fun _ _ _ => ?_
     iterate 3 refine pV ?_
     exact tr_ret ⟨trivial, _, _, rfl, ⟨rfl, rfl⟩, CSub.nil _, trivial⟩
theorem dvL_dvd {p m : Int} {mod : List Int} [hF : IsF p m mod] {f : Po (El p m mod)} {gs : List FacM} (hC : CmI f gs) (hf : f ≠ 0) {i : Nat} (hi : i ≤ gs.length) {d : Po (El p m mod)} (hd : d ∈ dvL p m mod gs i) : Po.lead d = 1 ∧ d ∣ f := by
 obtain ⟨h1, h2, _⟩ := ((dvL_inv hC hf i hi).mem d).1 hd
 exact ⟨h1, dvd_of_mu (lead1_ne h1) hf h2⟩
theorem prI_prK {gs : List FacM} {o : List Int} (hl : o.length = gs.length) (h : ∀ j : Nat, j < gs.length → o.getD j 0 = (gs.getD j facD).k + 1) (hk : ∀ e ∈ gs, 0 ≤ e.k) : ∀ i, i ≤ gs.length → prI (o.take i) = (prK gs i : Int)
 | 0, _ => rfl
 | i + 1, hi => by
  have h0 := hk _ (getD_mem (show i < gs.length by omega) facD)
  rw [prI_take (by omega), prI_prK hl h hk i (by omega), h i (by omega), prK, Int.natCast_mul]
  congr 1; omega
theorem poly_perm {p m : Int} {mod : List Int} [hF : IsF p m mod] {rs qs : List RowM} {ds : List (Po (El p m mod))} (h : xss rs = ds.map il) (hp : qs.Perm rs) : ∃ es : List (Po (El p m mod)), xss qs = es.map il ∧ es.Perm ds := by
 refine ⟨qs.map fun r => pol r.xs, ?_, ?_⟩
 ·rw [xss, List.map_map]
  refine List.map_congr_left fun r hr => ?_
  have h1 : r.xs ∈ xss rs := List.mem_map.2 ⟨r, hp.mem_iff.1 hr, rfl⟩
  rw [h] at h1
  obtain ⟨d, _, e⟩ := List.mem_map.1 h1
  show r.xs = il (pol r.xs)
  rw [← e, pol_il]
 ·refine (hp.map fun r => (pol r.xs : Po (El p m mod))).trans (List.Perm.of_eq ?_)
  have e : (rs.map fun r => (pol r.xs : Po (El p m mod))) = (xss rs).map pol := by rw [xss, List.map_map]; rfl
  rw [e, h, List.map_map]
  refine (List.map_congr_left fun d _ => ?_).trans (List.map_id ds)
  exact pol_il d
theorem xss_ilget {p m : Int} {mod : List Int} [hF : IsF p m mod] {rs : List RowM} {ds : List (Po (El p m mod))} (h : xss rs = ds.map il) {j : Nat} (hj : j < rs.length) : rs.length = ds.length ∧ (rs.getD j rowD).xs = il (ds.getD j 0) ∧ ds.getD j 0 ∈ ds := by
 have h1 := congrArg List.length h
 rw [xss_length, List.length_map] at h1
 have h2 := congrArg (fun l => l.getD j []) h
 simp only [xss_getD] at h2
 refine ⟨h1, ?_, getD_mem (by omega) 0⟩
 rw [h2, List.getD_eq_getElem?_getD, List.getElem?_map, List.getElem?_eq_getElem (show j < ds.length by omega), List.getD_eq_getElem?_getD, List.getElem?_eq_getElem (show j < ds.length by omega)]; rfl
theorem dvS_snoc {p m : Int} {mod : List Int} [hF : IsF p m mod] (P : Po (El p m mod)) (k : Nat) (ds : List (Po (El p m mod))) (d : Po (El p m mod)) : dvS P k (ds ++ [d]) = dvS P k ds ++ (List.range (k + 1)).map fun i => d * Rg.pow P i := by rw [dvS, List.flatMap_append]; simp [dvS]
theorem all_cmp_ent : Enters Tryz.prog 23 := enters_of Tryz.func23 (by kernel_rfl) (by kernel_rfl)
theorem all_cmp (g : GfM) (pg : Addr) (Ax : Option Addr) (nx cx : Nat) (a : List Int) (hnx : nx = a.length) (ha : a.length ≤ 1000000) (Ay : Option Addr) (ny cy : Nat) (b : List Int) (hny : ny = b.length) (hb : b.length ≤ 1000000) :
  Pure Tryz.prog 23 #[.slice Ax nx cx, .slice Ay ny cy, .pointer (some pg)] [ro (some pg) [.pointer (some g.p)], gfR g, ro Ax (ints a), ro Ay (ints b)] (isV (.int .i64 (cmpL (canL g.q a) (canL g.q b)))) := by
 refine pure_of (args := [.slice Ax nx cx, .slice Ay ny cy, .pointer (some pg)]) 10 Tryz.func23 rfl rfl rfl all_cmp_ent ⟨id, id, id, id, trivial⟩ (fun w0 => ?_)
 refine tS ?_
 refine tR fun _ _ _ => ?_
 refine pV ?_
 refine tS ?_
 refine tR fun _ _ _ => ?_
 refine sV (rLd0 rfl rfl) ?_
 iterate 2 refine pV ?_
 refine eV (eCallV rfl rfl rfl (fac_Compare g Ax nx cx a hnx (by omega) Ay ny cy b hny (by omega)) ⟨rfl, rfl, rfl, trivial⟩ ?_)
 refine pV ?_
 exact tr_ret ⟨trivial, _, _, rfl, ⟨rfl, rfl⟩, CSub.nil _, trivial⟩
theorem cyc_All_ent : Enters Tryz.prog 8 := enters_of Tryz.func8 (by kernel_rfl) (by kernel_rfl)
theorem cyc_All (p m : Int) (A : Option Addr) (c : Nat) (mod : List Int) [hF : IsF p m mod] (hl9 : mod.length ≤ 17592186044415) (n : Int) (hn1 : 1 ≤ n) (hn9 : n ≤ 64) (hfew : 4 * (pw p m).toNat ^ (n.toNat / 2) ≤ 65536) :
  Pure Tryz.prog 8 #[.agg #[.int .i64 p, .int .i64 m, .slice A mod.length c], .int .i64 n] [ro A (ints mod)] (two (fun v ch ch2 => ∃ B cap qs ds, v = .tuple #[.slice B qs.length cap, .int .i64 0] ∧ ch = ow B 22 cap (hdrs qs) ∧ ch2 = rowsX qs ∧ xss qs = (ds : List (Po (El p m mod))).map il ∧ ds.Nodup ∧ (∀ d, d ∈ ds ↔ Po.lead d = 1 ∧ d ∣ (xn1 n.toNat : Po (El p m mod))) ∧ ds.length ≤ 65536)) := by
 have hxl := xn1_len (p := p) (m := m) (mod := mod) (n := n.toNat) (by omega)
 have hx1 := xn1_lead (p := p) (m := m) (mod := mod) (n := n.toNat) (by omega)
 have hx0 := lead1_ne hx1
 have hil := il_length (xn1 n.toNat : Po (El p m mod))
 have he : facE (Po.len (pol (il (xn1 n.toNat : Po (El p m mod))) : Po (El p m mod))) = 0 := by
  rw [pol_il, hxl]; unfold facE
  rw [if_neg (by omega), if_neg (by omega)]
 refine pure_of (args := [.agg #[.int .i64 p, .int .i64 m, .slice A mod.length c], .int .i64 n]) 109 Tryz.func8 rfl rfl rfl cyc_All_ent ⟨id, trivial⟩ (fun w0 => ?_)
 refine tS ?_
 refine tR fun _ _ _ => ?_
 refine eV (eBox rfl rfl rfl rfl rfl (fun p0 => ?_))
 iterate 2 refine pV ?_
 refine tS ?_
 refine tR fun _ _ _ => ?_
 refine sV (rLdS rfl rfl rfl) ?_
 refine eV (eCall1 rfl rfl rfl (fld_New_ok _ _ _ _ _ (by omega) hF.out) ⟨rfl, trivial⟩ ?_)
 rintro _ _ ⟨g, rfl, rfl, hg⟩
 iterate 3 refine pV ?_
 refine eV (eAlloc rfl rfl rfl (fun p1a => ?_))
 refine eV (eSt0 rfl rfl rfl rfl rfl rfl ?_)
 refine pV ?_
 refine tS ?_
 refine tS ?_
 refine tR fun _ _ _ => ?_
 iterate 2 refine pV ?_
 refine tC rfl (fun h2 => ?_) (fun h2 => ?_)
 ·try simp only [zbA] at h2
  first | exact absurd trivial h2 | exact absurd rfl h2 | omega | (exact absurd h2 (by simp)) --done
 ·try simp only [zbA] at h2
  refine tK ?_
  refine tS ?_
  refine tS ?_
  refine tR fun _ _ _ => ?_
  iterate 3 refine pV ?_
  refine stg rfl rfl rfl rfl rfl (fun hb => by (have hq := hb; try simp only [zbA] at hq); exact rMove rfl rfl) ?_
  refine stg rfl rfl rfl rfl rfl (fun hb => by (have hq := hb; try simp only [zbA] at hq); exact rGtr rfl (evg rfl hb) rfl) ?_
  refine sV (rOrB rfl rfl rfl rfl) ?_
  refine tC rfl (fun h4 => ?_) (fun h4 => ?_)
  ·try simp only [zbA] at h4
   omega --done
  ·try simp only [zbA] at h4
   refine tK ?_
   refine tS ?_
   refine tr_draw [0, 1, 2, 3, 4, 5, 6, 7, 8, 9, 10, 11] [] mixed (by kernel_rfl) fun _ _ _ => ?_
   refine sV (rLd0 rfl rfl) ?_
   refine sV (rLd0 rfl rfl) ?_
   refine pV ?_
   refine eV (eCall1 rfl rfl rfl (cyc_around g hg n hn1 (by omega)) ⟨rfl, rfl, trivial⟩ ?_)
   rintro _ _ ⟨B6, rfl, rfl⟩
   rw [around_il (show 1 ≤ n.toNat by omega)]
   refine eV (eCall2 rfl rfl rfl (fac_CompleteL facSort facNone g hg B6 _ _ (il (xn1 n.toNat : Po (El p m mod))) rfl (by omega) he) ⟨rfl, rfl, trivial⟩ ?_)
   rintro _ _ _ ⟨B6a, c6a, fs, rfl, rfl, rfl, hC, hR, hfl⟩
   iterate 7 refine pV ?_
   rw [pol_il, Po.mon_of_monic hx1] at hC
   have hgq := hg.eq
   have hcn := hC.cnt hx1
   have hle := hC.le hx0
   have hfw := hC.few hxl hx1
   have hkn : ∀ e ∈ fs, 0 ≤ e.k := fun e h => by have := hle e h; omega
   refine tS ?_
   refine tS ?_
   refine tR fun _ _ _ => ?_
   iterate 2 refine pV ?_
   refine tC rfl (fun h7 => ?_) (fun h7 => ?_)
   ·try simp only [zbA] at h7
    first | exact absurd trivial h7 | exact absurd rfl h7 | omega | (exact absurd h7 (by simp)) --done
   ·try simp only [zbA] at h7
    refine tK ?_
    refine tS ?_
    refine tR fun _ _ _ => ?_
    refine pV ?_
    refine sV (rLenS rfl rfl) ?_
    refine eV (eMakeI rfl rfl rfl rfl rfl (by omega) (by omega) (by omega) (fun A9 => ?_))
    refine pV ?_
    simp only [Int.toNat_natCast]
    refine tS ?_
    refine tS ?_
    refine tR fun _ _ _ => ?_
    refine pV ?_
    refine sV (rLenS rfl rfl) ?_
    refine pV ?_
    refine tB ?_
    refine tr_loop2 (fun (i : Int) (o : List Int) => [(53, .int .i64 i), (10, .slice A9 fs.length fs.length), (51, .slice B6a fs.length c6a), (52, .int .i64 fs.length), (9, .slice B6a fs.length c6a), (4, .slice none 0 0), (5, .int .i64 0), (6, .pointer (some p1a))]) (fun (i : Int) (o : List Int) => [ow A9 3 fs.length (ints o), blk p0 24 [.int .i64 p, .int .i64 m, .slice A mod.length c], gfN g, blk p1a 45 [.pointer (some g.p)], ow2 B6a 53 c6a (fcs fs), rowsCh 3 (rws fs), ro A (ints mod)]) (fun (i : Int) (o : List Int) => (0 ≤ i ∧ i ≤ fs.length) ∧ o.length = fs.length ∧ ∀ j : Nat, (j : Int) < i → o.getD j 0 = (fs.getD j facD).k + 1) (fun (i : Int) (o : List Int) => ((fs.length : Int) - i).toNat) (0) (List.replicate fs.length 0) ⟨rfl, rfl, rfl, rfl, rfl, rfl, rfl, rfl, trivial⟩ (by first | exact cs _ _ | exact CSub.refl _) (⟨⟨by omega, by omega⟩, by simp, fun j hj => by omega⟩) (fun i o hI => ?_)
    obtain ⟨⟨hi0, hi1⟩, hol, ho⟩ := hI
    refine tS ?_
    refine tR fun _ _ _ => ?_
    refine pV ?_
    refine tS ?_
    refine tC rfl (fun h11 => ?_) (fun h11 => ?_)
    ·try simp only [zbA] at h11
     refine tK ?_
     refine tS ?_
     refine tB ?_
     refine tS ?_
     have hil2 : i.toNat < fs.length := by omega
     have hfe := hle _ (getD_mem hil2 facD)
     refine tR fun _ _ _ => ?_
     refine pV ?_
     refine sV (rIdxT rfl rfl rfl (by omega) (by omega) (by simp; omega)) ?_
     refine sV (rLdT rfl rfl (by simp; omega)) ?_
     rw [fcs_get1 fs i.toNat hil2, fcs_get2 fs i.toNat hil2]
     refine eV (eAlloc rfl rfl rfl (fun p12 => ?_))
     refine pV ?_
     refine eV (eStS rfl rfl rfl rfl rfl rfl ?_)
     refine tR fun _ _ _ => ?_
     iterate 2 refine pV ?_
     refine sV (rFld rfl rfl) ?_
     refine sV (rLdF rfl rfl rfl) ?_
     refine sV (rAdd rfl rfl rfl (by omega) (by omega)) ?_
     refine sV (rIdxI rfl rfl rfl (by omega) (by omega) (by omega)) ?_
     refine eV (eStI rfl rfl rfl rfl (by omega) ?_)
     refine tR fun _ _ _ => ?_
     refine sV (rAdd rfl rfl rfl (by omega) (by omega)) ?_
     refine pV ?_
     refine ⟨i + 1, o.set i.toNat ((fs.getD i.toNat facD).k + 1), ⟨rfl, rfl, rfl, rfl, rfl, rfl, rfl, rfl, trivial⟩, by first | exact cs _ _ | exact CSub.refl _, ?_⟩
     refine ⟨⟨⟨by omega, by omega⟩, by rw [List.length_set]; exact hol, fun j hj => ?_⟩, by omega⟩
     rw [getD_set]
     by_cases e : i.toNat = j
     ·rw [if_pos ⟨e, by omega⟩, ← e]
     ·rw [if_neg fun h => e h.1]; exact ho j (by omega)
    ·try simp only [zbA] at h11
     refine tE ?_
     refine tS ?_
     refine tS ?_
     have hop : ∀ z ∈ o, 1 ≤ z := fun z hz => by
      obtain ⟨j, hj, rfl⟩ := List.getElem_of_mem hz
      have h1 := ho j (by omega)
      have h2 := hle _ (getD_mem (show j < fs.length by omega) facD)
      rw [List.getD_eq_getElem?_getD, List.getElem?_eq_getElem hj] at h1
      simp only [Option.getD_some] at h1
      omega
     have hpr : prI o ≤ 65536 := by
      have h1 := prI_prK (gs := fs) hol (fun j hj => ho j (by omega)) hkn fs.length (Nat.le_refl _)
      rw [← hol, List.take_length, hol] at h1
      omega
     refine tR fun _ _ _ => ?_
     refine pV ?_
     refine eV (eCallV rfl rfl rfl (num_ProductG A9 _ _ o (by omega) (by omega) 65536 (by omega) (by omega) hop hpr) ⟨rfl, rfl, trivial⟩ ?_)
     iterate 5 refine pV ?_
     refine tS ?_
     refine tR fun _ _ _ => ?_
     iterate 2 refine pV ?_
     refine tC rfl (fun h16 => ?_) (fun h16 => ?_)
     ·try simp only [zbA] at h16
      first | exact absurd trivial h16 | exact absurd rfl h16 | omega | (exact absurd h16 (by simp)) --done
     ·try simp only [zbA] at h16
      refine tK ?_
      refine tS ?_
      refine tR fun _ _ _ => ?_
      refine eV (eLit1I rfl rfl rfl rfl (fun A18 => ?_))
      refine eV (eLit1 rfl rfl rfl rfl rfl (fun A18a => ?_))
      refine pV ?_
      refine tS ?_
      refine tS ?_
      refine tr_chunks _ ((cs _ [ow A18 3 1 (ints [1]), ow A18a 22 1 [.slice A18 1 1], blk p0 24 [.int .i64 p, .int .i64 m, .slice A mod.length c], gfN g, blk p1a 45 [.pointer (some g.p)], ow2 B6a 53 c6a (fcs fs), rowsCh 3 (rws fs), ro A (ints mod)]).trans (rowsX_one (r := ⟨A18, 1, [1]⟩) (e := 3) [ow A18a 22 1 (hdrs [⟨A18, 1, [1]⟩]), blk p0 24 [.int .i64 p, .int .i64 m, .slice A mod.length c], gfN g, blk p1a 45 [.pointer (some g.p)], ow2 B6a 53 c6a (fcs fs), rowsCh 3 (rws fs), ro A (ints mod)])) ?_
      refine tR fun _ _ _ => ?_
      refine pV ?_
      refine sV (rLenS rfl rfl) ?_
      refine pV ?_
      refine tB ?_
      refine tr_loop5 (fun (i : Int) (B : Option Addr) (cb : Nat) (rs : List RowM) (al : List RowM) => [(15, .slice B rs.length cb), (76, .int .i64 i), (74, .slice B6a fs.length c6a), (75, .int .i64 fs.length), (4, .slice none 0 0), (5, .int .i64 0), (6, .pointer (some p1a))]) (fun (i : Int) (B : Option Addr) (cb : Nat) (rs : List RowM) (al : List RowM) => [ow B 22 cb (hdrs rs), rowsX al, blk p0 24 [.int .i64 p, .int .i64 m, .slice A mod.length c], gfN g, blk p1a 45 [.pointer (some g.p)], ow2 B6a 53 c6a (fcs fs), rowsCh 3 (rws fs), ro A (ints mod)]) (fun (i : Int) (B : Option Addr) (cb : Nat) (rs : List RowM) (al : List RowM) => (0 ≤ i ∧ i ≤ fs.length) ∧ xss rs = (dvL p m mod fs i.toNat).map il ∧ ∀ r ∈ rs, r ∈ al) (fun (i : Int) (B : Option Addr) (cb : Nat) (rs : List RowM) (al : List RowM) => ((fs.length : Int) - i).toNat) (0) (A18a) (1) ([⟨A18, 1, [1]⟩]) ([⟨A18, 1, [1]⟩]) ⟨rfl, rfl, rfl, rfl, rfl, rfl, rfl, trivial⟩ (by first | exact cs _ _ | exact CSub.refl _) (⟨⟨by omega, by omega⟩, by show [[1]] = [il (1 : Po (El p m mod))]; rw [il_one], fun r h => h⟩) (fun i B cb rs al hI => ?_)
      obtain ⟨⟨hi0, hi1⟩, hrx, hra⟩ := hI
      refine tS ?_
      refine tR fun _ _ _ => ?_
      refine pV ?_
      refine tS ?_
      refine tC rfl (fun h20 => ?_) (fun h20 => ?_)
      ·try simp only [zbA] at h20
       refine tK ?_
       refine tS ?_
       refine tB ?_
       refine tS ?_
       have hil2 : i.toNat < fs.length := by omega
       have hfe := hle _ (getD_mem hil2 facD)
       have hrl := congrArg List.length hrx
       rw [xss_length, List.length_map, dvL_length] at hrl
       have hpk := prK_mono fs (show i.toNat ≤ fs.length by omega)
       have hLl : (dvL p m mod fs i.toNat).length = prK fs i.toNat := dvL_length fs i.toNat
       refine tR fun _ _ _ => ?_
       refine sV (rIdxT rfl rfl rfl (by omega) (by omega) (by simp; omega)) ?_
       refine sV (rLdT rfl rfl (by simp; omega)) ?_
       rw [fcs_get1 fs i.toNat hil2, fcs_get2 fs i.toNat hil2]
       refine eV (eAlloc rfl rfl rfl (fun p21 => ?_))
       refine eV (eStS rfl rfl rfl rfl rfl rfl ?_)
       refine tS ?_
       refine tR fun _ _ _ => ?_
       refine pV ?_
       refine tS ?_
       refine tS ?_
       refine tR fun _ _ _ => ?_
       refine pV ?_
       refine sV (rLen rfl rfl) ?_
       refine pV ?_
       refine tB ?_
       refine tr_nilU 22 ?_
       refine tr_loop5 (fun (j : Int) (D : Option Addr) (cd : Nat) (ns : List RowM) (al : List RowM) => [(18, .slice D ns.length cd), (82, .int .i64 j), (80, .slice B rs.length cb), (81, .int .i64 rs.length), (4, .slice none 0 0), (5, .int .i64 0), (6, .pointer (some p1a)), (15, .slice B rs.length cb), (17, .pointer (some p21)), (74, .slice B6a fs.length c6a), (75, .int .i64 fs.length), (76, .int .i64 i)]) (fun (j : Int) (D : Option Addr) (cd : Nat) (ns : List RowM) (al : List RowM) => [ow D 22 cd (hdrs ns), rowsX al, ow B 22 cb (hdrs rs), blk p21 53 [.slice (fs.getD i.toNat facD).r.A (fs.getD i.toNat facD).r.xs.length (fs.getD i.toNat facD).r.cap, .int .i64 (fs.getD i.toNat facD).k], blk p0 24 [.int .i64 p, .int .i64 m, .slice A mod.length c], gfN g, blk p1a 45 [.pointer (some g.p)], ow2 B6a 53 c6a (fcs fs), rowsCh 3 (rws fs), ro A (ints mod)]) (fun (j : Int) (D : Option Addr) (cd : Nat) (ns : List RowM) (al : List RowM) => (0 ≤ j ∧ j ≤ rs.length) ∧ xss ns = ((dvS (fcP p m mod (fs.getD i.toNat facD)) (fs.getD i.toNat facD).k.toNat ((dvL p m mod fs i.toNat).take j.toNat)).map il) ∧ (∀ r ∈ rs, r ∈ al) ∧ ∀ r ∈ ns, r ∈ al) (fun (j : Int) (D : Option Addr) (cd : Nat) (ns : List RowM) (al : List RowM) => ((rs.length : Int) - j).toNat) (0) (none) (0) ([]) (al) ⟨rfl, rfl, rfl, rfl, rfl, rfl, rfl, rfl, rfl, rfl, rfl, rfl, trivial⟩ (by first | exact cs _ _ | exact CSub.refl _) (⟨⟨by omega, by omega⟩, by simp [dvS, xss], hra, fun r h => by simp at h⟩) (fun j D cd ns al hI => ?_)
       obtain ⟨⟨hj0, hj1⟩, hnx, hra, hna⟩ := hI
       have hnl := congrArg List.length hnx
       rw [xss_length, List.length_map, dvS_length, List.length_take] at hnl
       refine tS ?_
       refine tR fun _ _ _ => ?_
       refine pV ?_
       refine tS ?_
       refine tC rfl (fun h24 => ?_) (fun h24 => ?_)
       ·try simp only [zbA] at h24
        refine tK ?_
        refine tS ?_
        refine tB ?_
        refine tS ?_
        have hjl : j.toNat < rs.length := by omega
        haveI : InB j.toNat rs.length := ⟨hjl⟩
        obtain ⟨hdl, hjx, hdm⟩ := xss_ilget hrx hjl
        have hrj := getD_mem hjl rowD
        refine tR fun _ _ _ => ?_
        refine sV (rIdxR rfl rfl rfl (by omega) (by omega) (by omega)) ?_
        refine sV (rLdR rfl rfl (by omega)) ?_
        refine pV ?_
        refine tS ?_
        refine tR fun _ _ _ => ?_
        refine pV ?_
        refine tB ?_
        refine tr_loop6 (fun (t : Int) (D : Option Addr) (cd : Nat) (ns : List RowM) (al : List RowM) (r0 : RowM) => [(18, .slice D ns.length cd), (20, .slice r0.A r0.xs.length r0.cap), (21, .int .i64 t), (4, .slice none 0 0), (5, .int .i64 0), (6, .pointer (some p1a)), (15, .slice B rs.length cb), (17, .pointer (some p21)), (74, .slice B6a fs.length c6a), (75, .int .i64 fs.length), (76, .int .i64 i), (80, .slice B rs.length cb), (81, .int .i64 rs.length), (82, .int .i64 j)]) (fun (t : Int) (D : Option Addr) (cd : Nat) (ns : List RowM) (al : List RowM) (r0 : RowM) => [ow D 22 cd (hdrs ns), rowsX al, ow B 22 cb (hdrs rs), blk p21 53 [.slice (fs.getD i.toNat facD).r.A (fs.getD i.toNat facD).r.xs.length (fs.getD i.toNat facD).r.cap, .int .i64 (fs.getD i.toNat facD).k], blk p0 24 [.int .i64 p, .int .i64 m, .slice A mod.length c], gfN g, blk p1a 45 [.pointer (some g.p)], ow2 B6a 53 c6a (fcs fs), rowsCh 3 (rws fs), ro A (ints mod)]) (fun (t : Int) (D : Option Addr) (cd : Nat) (ns : List RowM) (al : List RowM) (r0 : RowM) => (0 ≤ t ∧ t ≤ (fs.getD i.toNat facD).k) ∧ xss ns = ((dvS (fcP p m mod (fs.getD i.toNat facD)) (fs.getD i.toNat facD).k.toNat ((dvL p m mod fs i.toNat).take j.toNat)).map il) ++ ((List.range t.toNat).map fun z => il (((dvL p m mod fs i.toNat).getD j.toNat 0) * Rg.pow (fcP p m mod (fs.getD i.toNat facD)) z)) ∧ r0.xs = il (((dvL p m mod fs i.toNat).getD j.toNat 0) * Rg.pow (fcP p m mod (fs.getD i.toNat facD)) t.toNat) ∧ r0 ∈ al ∧ (∀ r ∈ rs, r ∈ al) ∧ ∀ r ∈ ns, r ∈ al) (fun (t : Int) (D : Option Addr) (cd : Nat) (ns : List RowM) (al : List RowM) (r0 : RowM) => ((fs.getD i.toNat facD).k - t).toNat) (0) (D) (cd) (ns) (al) (rs.getD j.toNat rowD) ⟨rfl, rfl, rfl, rfl, rfl, rfl, rfl, rfl, rfl, rfl, rfl, rfl, rfl, rfl, trivial⟩ (by first | exact cs _ _ | exact CSub.refl _) (⟨⟨by omega, by omega⟩, by simpa using hnx, by rw [hjx, show Int.toNat 0 = 0 from rfl, Rg.pow, Rg.mul_one], hra _ hrj, hra, hna⟩) (fun t D cd ns al r0 hI => ?_)
        obtain ⟨⟨ht0, ht1⟩, hnx, hy, hya, hra, hna⟩ := hI
        have hnl2 := congrArg List.length hnx
        rw [List.length_append, xss_length, List.length_map, List.length_map, List.length_range, dvS_length, List.length_take] at hnl2
        refine tS ?_
        refine tB ?_
        refine tS ?_
        have hin : ((dvL p m mod fs i.toNat).getD j.toNat 0) * Rg.pow (fcP p m mod (fs.getD i.toNat facD)) t.toNat ∈ (dvL p m mod fs (i.toNat + 1)) := mem_dvS.2 ⟨_, hdm, t.toNat, by omega, rfl⟩
        obtain ⟨hml, hmd⟩ := dvL_dvd hC hx0 (i := i.toNat + 1) (by omega) hin
        have hmn := Po.dvd_len hmd hx0
        have hyl : r0.xs.length ≤ n.toNat + 1 := by rw [hy, il_length]; omega
        haveI : RowIn r0 al := ⟨hya⟩
        have hb1 := Nat.mul_le_mul_right ((fs.getD i.toNat facD).k.toNat + 1) (show min j.toNat (dvL p m mod fs i.toNat).length + 1 ≤ (dvL p m mod fs i.toNat).length by omega)
        have hb2 := prK_mono fs (show i.toNat + 1 ≤ fs.length by omega)
        rw [prK] at hb2
        rw [Nat.add_mul, hLl] at hb1
        rw [hLl] at hnl2
        refine tR fun _ _ _ => ?_
        iterate 2 refine pV ?_
        refine eV (eLit1 rfl rfl rfl rfl rfl (fun A28 => ?_))
        refine eV (eAppR rfl rfl rfl rfl rfl (by first | rfl | simp | omega) (by omega) (fun A28a c28a => ?_))
        refine pV ?_
        refine tS ?_
        refine tS ?_
        refine tR fun _ _ _ => ?_
        refine pV ?_
        refine sV (rFld rfl rfl) ?_
        refine sV (rLdF rfl rfl rfl) ?_
        refine pV ?_
        refine tC rfl (fun h29 => ?_) (fun h29 => ?_)
        ·try simp only [zbA] at h29
         refine tE ?_
         refine tR fun _ _ _ => ?_
         refine sV (rAdd rfl rfl rfl (by omega) (by omega)) ?_
         refine pV ?_
         refine ⟨j + 1, A28a, c28a, ns ++ [r0], al, ⟨rfl, rfl, rfl, rfl, rfl, rfl, rfl, rfl, rfl, rfl, rfl, rfl, trivial⟩, by first | exact cs _ _ | exact CSub.refl _, ?_⟩
         have htk : t.toNat = (fs.getD i.toNat facD).k.toNat := by omega
         refine ⟨⟨⟨by omega, by omega⟩, ?_, hra, fun r hr => ?_⟩, by omega⟩
         ·rw [xss_snoc, hnx, show (j + 1).toNat = j.toNat + 1 by omega, take_getD (show j.toNat < (dvL p m mod fs i.toNat).length by omega) 0, dvS_snoc, List.map_append, List.append_assoc]
          congr 1
          rw [List.range_succ, List.map_append, List.map_append, ← htk, hy, List.map_map]; rfl
         ·rcases List.mem_append.1 hr with hr | hr
          ·exact hna r hr
          ·rw [List.mem_singleton.1 hr]; exact hya
        ·try simp only [zbA] at h29
         refine tK ?_
         haveI : RowIn (fs.getD i.toNat facD).r (rws fs) := ⟨List.mem_map.2 ⟨_, getD_mem hil2 facD, rfl⟩⟩
         refine tR fun _ _ _ => ?_
         refine sV (rLd0 rfl rfl) ?_
         refine pV ?_
         refine sV (rFld rfl rfl) ?_
         refine sV (rLdF rfl rfl rfl) ?_
         refine eV (eLit2R r0.xs (fs.getD i.toNat facD).r.xs rfl rfl rfl rfl rfl (fun A30 => ?_))
         refine eV (eCall1 rfl rfl rfl (poly_Mul2 g hg A30 r0.A r0.cap r0.xs (fs.getD i.toNat facD).r.A (fs.getD i.toNat facD).r.cap (fs.getD i.toNat facD).r.xs (by omega) (by omega)) ⟨rfl, rfl, trivial⟩ ?_)
         rintro _ _ ⟨B30, c30, rfl, rfl⟩
         refine pV ?_
         rw [show (pol r0.xs * pol (fs.getD i.toNat facD).r.xs : Po (El p m mod)) = ((dvL p m mod fs i.toNat).getD j.toNat 0) * Rg.pow (fcP p m mod (fs.getD i.toNat facD)) (t + 1).toNat by rw [hy, pol_il, show (t + 1).toNat = t.toNat + 1 by omega, Rg.pow, Rg.mul_assoc]; rfl]
         refine tR fun _ _ _ => ?_
         refine pV ?_
         refine sV (rAdd rfl rfl rfl (by omega) (by omega)) ?_
         refine pV ?_
         refine ⟨t + 1, A28a, c28a, ns ++ [r0], al ++ [⟨B30, c30, il (((dvL p m mod fs i.toNat).getD j.toNat 0) * Rg.pow (fcP p m mod (fs.getD i.toNat facD)) (t + 1).toNat)⟩], ⟨B30, c30, il (((dvL p m mod fs i.toNat).getD j.toNat 0) * Rg.pow (fcP p m mod (fs.getD i.toNat facD)) (t + 1).toNat)⟩, ⟨rfl, rfl, rfl, rfl, rfl, rfl, rfl, rfl, rfl, rfl, rfl, rfl, rfl, rfl, trivial⟩, by exact xrow_app (r := ⟨B30, c30, il (((dvL p m mod fs i.toNat).getD j.toNat 0) * Rg.pow (fcP p m mod (fs.getD i.toNat facD)) (t + 1).toNat)⟩) (e := 3), ?_⟩
         refine ⟨⟨⟨by omega, by omega⟩, ?_, rfl, by simp, fun r hr => List.mem_append_left _ (hra r hr), fun r hr => List.mem_append_left _ ?_⟩, by omega⟩
         ·rw [xss_snoc, hnx, show (t + 1).toNat = t.toNat + 1 by omega, List.range_succ, List.map_append, ← List.append_assoc, hy]; rfl
         ·rcases List.mem_append.1 hr with hr | hr
          ·exact hna r hr
          ·rw [List.mem_singleton.1 hr]; exact hya
       ·try simp only [zbA] at h24
        refine tE ?_
        refine tR fun _ _ _ => ?_
        iterate 2 refine pV ?_
        refine tR fun _ _ _ => ?_
        refine sV (rAdd rfl rfl rfl (by omega) (by omega)) ?_
        refine pV ?_
        refine ⟨i + 1, D, cd, ns, al, ⟨rfl, rfl, rfl, rfl, rfl, rfl, rfl, trivial⟩, by first | exact cs _ _ | exact CSub.refl _, ?_⟩
        have hje : j.toNat = (dvL p m mod fs i.toNat).length := by omega
        rw [hje, List.take_length] at hnx
        exact ⟨⟨⟨by omega, by omega⟩, by rw [hnx, show (i + 1).toNat = i.toNat + 1 by omega]; rfl, hna⟩, by omega⟩
      ·try simp only [zbA] at h20
       refine tE ?_
       refine tS ?_
       have hie : i.toNat = fs.length := by omega
       rw [hie] at hrx
       have hrl := congrArg List.length hrx
       rw [xss_length, List.length_map, dvL_length] at hrl
       have hpk0 := prK_pos fs fs.length
       have hrne : rs ≠ [] := fun h => by rw [h] at hrl; simp at hrl; omega
       have hel : ∀ r ∈ rs, ∃ d : Po (El p m mod), r.xs = il d ∧ r.xs.length ≤ 1000000 := fun r hr => by
        have h1 : r.xs ∈ xss rs := List.mem_map.2 ⟨r, hr, rfl⟩
        rw [hrx] at h1
        obtain ⟨d, hd, e⟩ := List.mem_map.1 h1
        have h2 := Po.dvd_len (dvL_dvd hC hx0 (Nat.le_refl _) hd).2 hx0
        exact ⟨d, e.symm, by rw [← e, il_length]; omega⟩
       have hcmp : ∀ x ∈ rs, ∀ y ∈ rs, Pure Tryz.prog 23 ([x.hdr, y.hdr] ++ [(.pointer (some p1a) : Value)]).toArray [ro (some p1a) [.pointer (some g.p)], gfR g, rowsR rs] (isV (.int .i64 (cmpL x.xs y.xs))) := fun x hx y hy => by
        obtain ⟨dx, e1, l1⟩ := hel x hx
        obtain ⟨dy, e2, l2⟩ := hel y hy
        have h3 := (all_cmp g p1a x.A _ x.cap x.xs rfl (by omega) y.A _ y.cap y.xs rfl (by omega)).sub (G' := [ro (some p1a) [.pointer (some g.p)], gfR g, rowsR rs]) fun w hw ch hch => by
         simp only [List.mem_cons, List.not_mem_nil, or_false] at hch
         rcases hch with rfl | rfl | rfl | rfl
         ·exact hw _ (by simp)
         ·exact hw _ (by simp)
         ·exact hw (rowsR rs) (by simp) _ hx
         ·exact hw (rowsR rs) (by simp) _ hy
        rw [hgq] at h3
        have e3 : canL (pw p m) x.xs = x.xs := by rw [e1]; exact canL_il rfl dx
        have e4 : canL (pw p m) y.xs = y.xs := by rw [e2]; exact canL_il rfl dy
        rw [e3, e4] at h3
        exact h3
       refine tr_chunks _ ((cs _ [rowsX al, ow B 22 cb (hdrs rs), blk p0 24 [.int .i64 p, .int .i64 m, .slice A mod.length c], gfN g, blk p1a 45 [.pointer (some g.p)], ow2 B6a 53 c6a (fcs fs), rowsCh 3 (rws fs), ro A (ints mod)]).trans (rowsX_sub hra _)) ?_
       refine tR fun _ _ _ => ?_
       refine pV ?_
       refine sV (rFun rfl rfl rfl) ?_
       refine eV (eCallM1 rfl rfl rfl (slc_SortRows B _ cb rs rfl hrne (by omega) 23 [.pointer (some p1a)] [ro (some p1a) [.pointer (some g.p)], gfR g, rowsR rs] ⟨id, id, id, trivial⟩ (fun x y => cmpL x.xs y.xs) hcmp (fun x _ => cmpL_irr _) (fun x _ y _ z _ h1 h2 => cmpL_trans h1 h2) (fun x _ y _ z _ h1 h2 => cmpL_ntr h1 h2)) ⟨rfl, rfl, trivial⟩ ?_)
       rintro _ _ ⟨qs, rfl, rfl, hperm⟩
       refine tS ?_
       obtain ⟨es, hes, hpe⟩ := poly_perm hrx hperm
       have hqs := hperm.length_eq
       refine tR fun _ _ _ => ?_
       iterate 3 refine pV ?_
       have hrq := hperm.length_eq
       rw [← hrq]
       exact tr_ret ⟨trivial, _, _, rfl, ⟨_, _, rfl, B, cb, qs, es, rfl, rfl, rfl, hes, hpe.nodup_iff.2 (dvL_inv hC hx0 _ (Nat.le_refl _)).nd, fun d => hpe.mem_iff.trans (dvL_mem hC hx0 d), by rw [hpe.length_eq, dvL_length]; omega⟩, (cs _ [rowsX rs, ow B 22 cb (hdrs qs)]).trans ((rowsX_sub (fun r h => hperm.mem_iff.1 h) _).trans (cs _ _)), trivial, trivial, trivial⟩
end Go.Proofs.YtdkahdehodopoaaGreat

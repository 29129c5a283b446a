/-
  FACTORUNIQUE, PART 6 OF 9. One sentence: the texts behind the law FactorUnique, put together.
  Conditions: each theorem's own, written out in it.
-/
import Derived.Test.YtbhoeaijpnjgdaaGreatK5
set_option linter.unusedSimpArgs false
set_option linter.unusedVariables false
set_option linter.unusedSectionVars false
set_option maxRecDepth 100000
set_option maxHeartbeats 1000000
namespace Go.Proofs.YtbhoeaijpnjgdaaGreat
open Go.RowKit
section
variable {p m : Int} {mod : List Int} [hF : IsF p m mod]
open Po Vc
structure RowS (f : Po (El p m mod)) (n j : Nat) (xs : List Int) : Prop where
 len : xs.length = 2 * n
 good : AllIn (pw p m) xs
 lo : ∀ t, t < n → (el (xs.getD t 0) : El p m mod) = cf (xk f (j * (pw p m).toNat)) t - (if t = j then 1 else 0)
 hi : ∀ t, t < n → (el (xs.getD (n + t) 0) : El p m mod) = if t = j then 1 else 0
theorem cf_mn1 (j t : Nat) : cf (mn 1 j : Po (El p m mod)) t = if t = j then 1 else 0 := cf_mn 1 j t
theorem RowS.gr {f : Po (El p m mod)} (hf : f ≠ 0) {n j : Nat} (hl : Po.len f = n + 1) (hj : j < n) {xs : List Int} (h : RowS f n j xs) : Gr f n (rw' xs) := by
 have hx := rem_len (mn 1 (j * (pw p m).toNat) : Po (El p m mod)) hf
 have hx2 : Po.len (xk f (j * (pw p m).toNat)) ≤ n := by unfold xk; omega
 refine gr_row (i := j) hf (fun t ht => ?_) (Po.ext fun t => ?_) (Po.ext fun t => ?_)
 ·rw [rw_at, getD_out (by rw [h.len]; omega), el_zero]
 ·rw [cf_lpV, cf_sub, cf_mn1]
  by_cases ht : t < n
  ·rw [if_pos ht, rw_at, h.lo t ht]
  ·rw [if_neg ht, cf_ge (by omega), if_neg (by omega), Rg.sub_self]
 ·rw [cf_rpV, cf_mn1]
  by_cases ht : t < n
  ·rw [if_pos ht, rw_at, h.hi t ht]
  ·rw [if_neg ht, if_neg (by omega)]
theorem rowS_sta {f : Po (El p m mod)} (hf : f ≠ 0) {n : Nat} (hl : len f = n + 1) {rs : List RowM} (hn : rs.length = n) (h : ∀ j, j < n → RowS f n j (rs.getD j rowD).xs) : Sta f n (vsR rs) ∧ Gd (pw p m) (2 * n) rs := by
 refine ⟨⟨by rw [vsR_length]; exact hn, fun v hv => ?_, fun i j hi hj => ?_⟩, fun r hr => ?_⟩
 ·obtain ⟨r, hr, rfl⟩ := List.mem_map.1 hv
  obtain ⟨i, hi, rfl⟩ := List.getElem_of_mem hr
  have := h i (by omega)
  rw [List.getD_eq_getElem?_getD, List.getElem?_eq_getElem hi] at this
  exact this.gr hf hl (by omega)
 ·rw [vsR_get, rw_at, (h i hi).hi j hj]
  by_cases e : i = j
  ·rw [if_pos e, if_pos e.symm]
  ·rw [if_neg e, if_neg (fun h => e h.symm)]
 ·obtain ⟨i, hi, rfl⟩ := List.getElem_of_mem hr
  have := h i (by omega)
  rw [List.getD_eq_getElem?_getD, List.getElem?_eq_getElem hi] at this
  exact ⟨this.len, this.good⟩
theorem rowS_mk {f : Po (El p m mod)} (hf : f ≠ 0) {n j : Nat} (hl : len f = n + 1) (hj : j < n) {L : List Int} (h1 : L.length = 2 * n) (h2 : ∀ t, L.getD t 0 = (il (xk f (j * (pw p m).toNat))).getD t 0) {u : Int} (hu : u = (cf (xk f (j * (pw p m).toNat)) j - 1 : El p m mod).1) : RowS f n j ((L.set j u).set (n + j) 1) := by
 have hq := hF.q2
 have hx := rem_len (mn 1 (j * (pw p m).toNat) : Po (El p m mod)) hf
 have hx2 : Po.len (xk f (j * (pw p m).toNat)) ≤ n := by unfold xk; omega
 have hg : AllIn (pw p m) L := fun x hx => by
  obtain ⟨t, ht, rfl⟩ := List.getElem_of_mem hx
  have := h2 t
  rw [List.getD_eq_getElem?_getD, List.getElem?_eq_getElem ht, il_getD] at this
  have e : L[t] = (cf (xk f (j * (pw p m).toNat)) t : El p m mod).1 := this
  rw [e]
  exact El.bd _
 refine ⟨by simpa using h1, (hg.set (by rw [hu]; exact El.bd _) _).set (by omega) _, fun t ht => ?_, fun t ht => ?_⟩
 ·rw [getD_set, if_neg (by omega), getD_set]
  by_cases e : j = t
  ·rw [if_pos ⟨e, by omega⟩, hu, el_of, if_pos e.symm, e]
  ·rw [if_neg (fun x => e x.1), h2, il_getD, el_of, if_neg (fun x => e x.symm), Rg.sub_zero]
 ·rw [getD_set]
  by_cases e : j = t
  ·rw [if_pos ⟨by omega, by simp; omega⟩, el_one, if_pos e.symm]
  ·rw [if_neg (by omega), getD_set, if_neg (by omega), h2, il_getD, el_of, cf_ge (by omega), if_neg (fun x => e x.symm)]
theorem copy_zeros (n : Nat) (ys : List Int) (h : ys.length ≤ n) : (List.take 0 (List.replicate n (0 : Int)) ++ ys.take (min ys.length n) ++ (List.replicate n (0 : Int)).drop (0 + min ys.length n)).length = n ∧ ∀ t, (List.take 0 (List.replicate n (0 : Int)) ++ ys.take (min ys.length n) ++ (List.replicate n (0 : Int)).drop (0 + min ys.length n)).getD t 0 = ys.getD t 0 := by
 rw [Nat.min_eq_left h, List.take_zero, List.nil_append, List.take_length, Nat.zero_add]
 refine ⟨by simp; omega, fun t => ?_⟩
 rw [List.getD_eq_getElem?_getD, List.getElem?_append]
 by_cases ht : t < ys.length
 ·rw [if_pos ht, List.getD_eq_getElem?_getD]
 ·rw [if_neg ht, List.getElem?_drop, List.getElem?_replicate, getD_out (by omega)]
  split <;> rfl
theorem row_part {c : Nat} {mm : El p m mod} {x r s : List Int} (hl : x.length = r.length) (hs : s.length = r.length) (hr : AllIn (pw p m) r) (h : ∀ t, t < r.length → x.getD t 0 = if c ≤ t then (el (r.getD t 0) - mm * el (s.getD t 0) : El p m mod).1 else r.getD t 0) (hz : ∀ t, t < c → (el (s.getD t 0) : El p m mod) = 0) : x = addR (-mm) r s := ext_getD (by simpa using hl) fun t => by
 have hq := hF.q2
 by_cases ht : t < r.length
 ·rw [addR_get _ _ _ ht, h t ht]
  by_cases hc : c ≤ t
  ·rw [if_pos hc]; congr 1; grind
  ·rw [if_neg hc, hz t (by omega), Rg.mul_zero, Rg.add_zero]
   exact (el_in (hr.get (by omega) t)).symm
 ·rw [getD_out (by omega), getD_out (by simp; omega)]
theorem xss_drop_rp {n : Nat} {f : Po (El p m mod)} {rs : List RowM} (a : Nat) : ((vsR rs : List (Vc (El p m mod))).drop a).map (rpV n) = (rs.drop a).map fun r => rpV n (rw' r.xs) := by
 unfold vsR; rw [← List.map_drop, List.map_map]; rfl
theorem pol_drop {n : Nat} {xs : List Int} (h : xs.length = 2 * n) : (pol (xs.drop n) : Po (El p m mod)) = rpV n (rw' xs) := Po.ext fun j => by
 rw [cf_pol, cf_rpV, rw_at]
 by_cases hj : j < n
 ·rw [if_pos hj, List.getD_eq_getElem?_getD, List.getElem?_drop, ← List.getD_eq_getElem?_getD]
 ·rw [if_neg hj, getD_out (by simp; omega), el_zero]
end
theorem poly_Mul2 (g : GfM) {p m : Int} {mod : List Int} [hF : IsF p m mod] (hg : GOk g p m mod) (L : Option Addr) (A1 : Option Addr) (c1 : Nat) (l1 : List Int) (A2 : Option Addr) (c2 : Nat) (l2 : List Int) (h1 : l1.length ≤ 100000) (h2 : l2.length ≤ 100000) :
  Pure Tryz.prog 68 #[.pointer (some g.p), .slice L 2 2] [gfR g, ro L (hdrs [⟨A1, c1, l1⟩, ⟨A2, c2, l2⟩]), rowsR [⟨A1, c1, l1⟩, ⟨A2, c2, l2⟩]] (one (fun v ch => ∃ B cap, v = .slice B (il (pol l1 * pol l2 : Po (El p m mod))).length cap ∧ ch = ow B 3 cap (ints (il (pol l1 * pol l2 : Po (El p m mod)))))) := by
 have e : prP p m mod [⟨A1, c1, l1⟩, ⟨A2, c2, l2⟩] = pol l1 * pol l2 := by
  show 1 * pol l1 * pol l2 = _
  rw [Rg.one_mul]
 have b1 := Po.len_le (pol_sh (p := p) (m := m) (mod := mod) l1)
 have b2 := Po.len_le (pol_sh (p := p) (m := m) (mod := mod) l2)
 rw [← e]
 refine poly_Mul g hg L 2 2 [⟨A1, c1, l1⟩, ⟨A2, c2, l2⟩] rfl (by simp) (fun z hz => ?_) (fun z hz => ?_)
 ·match z, hz with
  | 0, _ => exact Nat.le_trans h1 (by omega)
  | 1, _ => exact Nat.le_trans h2 (by omega)
  | z + 2, hz => exact absurd hz (by simp)
 ·match z, hz with
  | 0, _ => show Po.len (1 : Po (El p m mod)) ≤ _; rw [Po.len_one]; omega
  | 1, _ =>
   show Po.len (1 * pol l1 : Po (El p m mod)) ≤ _
   rw [Rg.one_mul]; omega
  | 2, _ =>
   show Po.len (prP p m mod [⟨A1, c1, l1⟩, ⟨A2, c2, l2⟩]) ≤ _
   rw [e]
   have := len_mul_le (pol l1) (pol l2 : Po (El p m mod))
   omega
  | z + 3, hz => exact absurd hz (by simp)
theorem fac_fixed_ent : Enters Tryz.prog 96 := enters_of Tryz.func96 (by kernel_rfl) (by kernel_rfl)
theorem fac_fixed (g : GfM) {p m : Int} {mod : List Int} [hF : IsF p m mod] (hg : GOk g p m mod) (A : Option Addr) (n c0 N : Nat) (f : Po (El p m mod)) (hn : n = N + 1) (hN : Po.len f = N + 1) (hN1 : 1 ≤ N) (hl : Po.lead f = 1) (h9 : Po.len f ≤ 257) :
  Pure Tryz.prog 96 #[.pointer (some g.p), .slice A n c0] [gfR g, ro A (ints (il f))] (two (fun v ca cb => ∃ B cap os, v = .slice B os.length cap ∧ ca = ow B 22 cap (hdrs os) ∧ cb = rowsCh 3 os ∧ ∃ bs : List (Po (El p m mod)), xss os = bs.map (fun b => il b) ∧ Bss f bs ∧ os.length ≤ 256)) := by
 have hq2 := hF.q2
 have hq9 := hF.out.1.1.q
 have hgq := hg.eq
 have hf0 : f ≠ 0 := lead1_ne hl
 have hilf := il_length f
 have hfe : facE (Po.len (pol (il f) : Po (El p m mod))) = 0 := by rw [pol_il, facE, if_neg (by omega), if_neg (by omega)]
 have hxl : ∀ k, (il (xk f (k))).length ≤ N := fun k => by
  rw [il_length]
  have := Po.rem_len (Po.mn 1 k : Po (El p m mod)) hf0
  unfold xk; omega
 have h10 : ([1] : List Int) = il (xk f (Int.toNat 0 * (pw p m).toNat)) := by
  rw [show Int.toNat 0 * (pw p m).toNat = 0 by simp, xk_zero (by omega), il_one]
 have hx1 : Po.rem (Rg.pow (pol [0, 1] : Po (El p m mod)) (pw p m).toNat) (pol (il f)) = (xk f ((pw p m).toNat)) := by
  rw [pol_X01, pol_il]
  show Po.rem (Rg.pow (Po.mn 1 1) _) f = _
  rw [pow_mn, Nat.one_mul]; rfl
 refine pure_of (args := [.pointer (some g.p), .slice A n c0]) 206 Tryz.func96 rfl rfl rfl fac_fixed_ent ⟨id, id, trivial⟩ (fun w0 => ?_)
 refine tS ?_
 refine tR fun _ _ _ => ?_
 refine pV ?_
 refine tS ?_
 refine tR fun _ _ _ => ?_
 refine pV ?_
 refine sV (rLen rfl rfl) ?_
 refine sV (rSub rfl rfl rfl (by omega) (by omega)) ?_
 refine pV ?_
 rw [show (n : Int) - 1 = (N : Int) by omega]
 refine tS ?_
 refine tR fun _ _ _ => ?_
 refine pV ?_
 refine eV (eLit2I rfl rfl rfl rfl rfl (fun A2 => ?_))
 refine pV ?_
 refine eV (eCallV rfl rfl rfl (gf_Order g) ⟨rfl, trivial⟩ ?_)
 refine pV ?_
 rw [hgq]
 refine eV (eCall1 rfl rfl rfl (poly_PowMod g hg A2 _ 2 [0, 1] rfl (by simp) (pw p m) (by omega) (by omega) A n c0 (il f) (by omega) (by omega) hfe) ⟨rfl, rfl, rfl, rfl, trivial⟩ ?_)
 rintro _ _ ⟨B2, b2, rfl, rfl⟩
 iterate 5 refine pV ?_
 rw [hx1]
 refine tS ?_
 refine tR fun _ _ _ => ?_
 refine pV ?_
 refine eV (eMake rfl rfl rfl rfl rfl (by omega) (by omega) (by omega) (fun A3 => ?_))
 refine pV ?_
 rw [Int.toNat_natCast, hdrs_rep]
 refine tS ?_
 refine tR fun _ _ _ => ?_
 refine eV (eLit1I rfl rfl rfl rfl (fun A4 => ?_))
 refine pV ?_
 refine tS ?_
 refine tS ?_
 refine tR fun _ _ _ => ?_
 refine pV ?_
 refine sV (rLen rfl rfl) ?_
 refine pV ?_
 refine tB ?_
 refine tr_loop5 (fun (i : Int) (rs : List RowM) (Bp : Option Addr) (cp : Nat) (l : List Int) => [(5, .int .i64 (N : Int)), (8, .slice A3 N N), (9, .slice Bp l.length cp), (40, .int .i64 i), (39, .int .i64 (N : Int)), (0, .pointer (some g.p)), (1, .slice A n c0), (4, .slice none 0 0), (6, .slice B2 (il (xk f ((pw p m).toNat))).length b2)]) (fun (i : Int) (rs : List RowM) (Bp : Option Addr) (cp : Nat) (l : List Int) => [ow A3 22 N (hdrs rs), rowsCh 3 rs, ow Bp 3 cp (ints l), ow B2 3 b2 (ints (il (xk f ((pw p m).toNat)))), gfR g, ro A (ints (il f))]) (fun (i : Int) (rs : List RowM) (Bp : Option Addr) (cp : Nat) (l : List Int) => (0 ≤ i ∧ i ≤ N) ∧ l = il (xk f (i.toNat * (pw p m).toNat)) ∧ rs.length = N ∧ ∀ j, j < i.toNat → RowS f N j (rs.getD j rowD).xs) (fun (i : Int) (rs : List RowM) (Bp : Option Addr) (cp : Nat) (l : List Int) => (N - i).toNat) (0) (List.replicate N rowD) (A4) (1) ([1]) ⟨rfl, rfl, rfl, rfl, rfl, rfl, rfl, rfl, rfl, trivial⟩ (by exact (rows_rep 3 _ N).trans (cs _ _)) (⟨⟨by omega, by omega⟩, h10, by simp, fun j hj => absurd hj (by omega)⟩) (fun i rs Bp cp l hI => ?_)
 obtain ⟨⟨hi0, hi1⟩, rfl, hrl, hrs⟩ := hI
 refine tS ?_
 refine tR fun _ _ _ => ?_
 refine pV ?_
 refine tS ?_
 refine tC rfl (fun h6 => ?_) (fun h6 => ?_)
 ·try simp only [zbA] at h6
  refine tK ?_
  refine tS ?_
  refine tB ?_
  refine tS ?_
  refine tR fun _ _ _ => ?_
  iterate 2 refine pV ?_
  refine tS ?_
  refine tR fun _ _ _ => ?_
  refine pV ?_
  refine sV (rMul rfl rfl rfl (by omega) (by omega)) ?_
  refine eV (eMakeI rfl rfl rfl rfl rfl (by omega) (by omega) (by omega) (fun A8 => ?_))
  refine pV ?_
  rw [show (2 * (N : Int)).toNat = 2 * N by omega]
  refine tS ?_
  refine tR fun _ _ _ => ?_
  iterate 2 refine pV ?_
  have hxi := hxl (i.toNat * (pw p m).toNat)
  have hcz := copy_zeros (2 * N) (il (xk f (i.toNat * (pw p m).toNat))) (by omega)
  refine eV (eCopyI (A := A8) (lo := 0) rfl rfl rfl rfl (cutA_zeroR A8 _) rfl (by simp) (by first | omega | simp) ?_)
  obtain ⟨L0, hL0⟩ : ∃ L0, L0 = (List.replicate (2 * N) (0 : Int)).take 0 ++ (il (xk f (i.toNat * (pw p m).toNat))).take (min (il (xk f (i.toNat * (pw p m).toNat))).length (2 * N)) ++ (List.replicate (2 * N) 0).drop (0 + min (il (xk f (i.toNat * (pw p m).toNat))).length (2 * N)) := ⟨_, rfl⟩
  rw [← hL0] at hcz ⊢
  obtain ⟨hcl, hcg⟩ := hcz
  refine tS ?_
  refine tR fun _ _ _ => ?_
  iterate 5 refine pV ?_
  refine sV (rIdxI rfl rfl rfl (by omega) (by omega) (by omega)) ?_
  refine sV (rLdI rfl rfl (by omega)) ?_
  refine eV (eCallV rfl rfl rfl (gf_SubE g hg _ _) ⟨rfl, rfl, rfl, trivial⟩ ?_)
  refine sV (rIdxI rfl rfl rfl (by omega) (by omega) (by omega)) ?_
  refine eV (eStI rfl rfl rfl rfl (by omega) ?_)
  refine tS ?_
  have hsl : (L0.set i.toNat (el (L0.getD i.toNat 0) - el 1 : El p m mod).1).length = 2 * N := by rw [List.length_set]; exact hcl
  refine tR fun _ _ _ => ?_
  iterate 3 refine pV ?_
  refine sV (rAdd rfl rfl rfl (by omega) (by omega)) ?_
  refine sV (rIdxI rfl rfl rfl (by omega) (by omega) (by omega)) ?_
  refine eV (eStI rfl rfl rfl rfl (by omega) ?_)
  rw [show ((N : Int) + i).toNat = N + i.toNat by omega]
  have hR : RowS f N i.toNat ((L0.set i.toNat (el (L0.getD i.toNat 0) - el 1 : El p m mod).1).set (N + i.toNat) 1) := rowS_mk hf0 hN (by omega) hcl hcg (by rw [hcg, il_getD, el_of, el_one])
  obtain ⟨L1, hL1⟩ : ∃ L1, L1 = (L0.set i.toNat (el (L0.getD i.toNat 0) - el 1 : El p m mod).1).set (N + i.toNat) 1 := ⟨_, rfl⟩
  rw [← hL1] at hR ⊢
  refine tS ?_
  refine tR fun _ _ _ => ?_
  iterate 3 refine pV ?_
  refine sV (rIdxR rfl rfl rfl (by omega) (by omega) (by omega)) ?_
  refine eV (eSt rfl rfl rfl rfl (by first | omega | (simp; omega)) rfl rfl ?_)
  have e5 : (hdrs rs).set i.toNat (.slice A8 (2 * N) (2 * N)) = hdrs (rs.set i.toNat ⟨A8, 2 * N, L1⟩) := by rw [hdrs_set]; simp [RowM.hdr, hR.len]
  rw [e5]
  refine tR fun _ _ _ => ?_
  iterate 4 refine pV ?_
  refine eV (eLit2R (il (xk f (i.toNat * (pw p m).toNat))) (il (xk f ((pw p m).toNat))) rfl rfl rfl rfl rfl (fun A13 => ?_))
  skip
  refine eV (eCall1 rfl rfl rfl (poly_Mul2 g hg A13 Bp cp (il (xk f (i.toNat * (pw p m).toNat))) B2 b2 (il (xk f ((pw p m).toNat))) (by have := hxl (i.toNat * (pw p m).toNat); omega) (by have := hxl (pw p m).toNat; omega)) ⟨rfl, rfl, trivial⟩ ?_)
  rintro _ _ ⟨Bm, cm, rfl, rfl⟩
  refine pV ?_
  have hpl := il_length (pol (il (xk f (i.toNat * (pw p m).toNat))) * pol (il (xk f ((pw p m).toNat))) : Po (El p m mod))
  have hpl2 := len_mul_le (pol (il (xk f (i.toNat * (pw p m).toNat)))) (pol (il (xk f ((pw p m).toNat))) : Po (El p m mod))
  have hpe := congrArg Po.len (pol_il (p := p) (m := m) (mod := mod) (xk f (i.toNat * (pw p m).toNat)))
  have hpf := congrArg Po.len (pol_il (p := p) (m := m) (mod := mod) (xk f ((pw p m).toNat)))
  have hpa := il_length (xk f (i.toNat * (pw p m).toNat))
  have hpb := il_length (xk f ((pw p m).toNat))
  have hpc := hxl (i.toNat * (pw p m).toNat)
  have hpd := hxl (pw p m).toNat
  refine eV (eCall2 rfl rfl rfl (poly_DivMod g hg Bm _ cm (il (pol (il (xk f (i.toNat * (pw p m).toNat))) * pol (il (xk f ((pw p m).toNat))))) rfl (by omega) A n c0 (il f) (by omega) (by omega) (by rw [pol_il]; exact hf0)) ⟨rfl, rfl, rfl, trivial⟩ ?_)
  rintro _ _ _ ⟨Qd, qd, Bd, cd, rfl, rfl, rfl⟩
  iterate 5 refine pV ?_
  rw [pol_il, pol_il, pol_il, pol_il, xk_add hf0, show i.toNat * (pw p m).toNat + (pw p m).toNat = (i + 1).toNat * (pw p m).toNat by rw [show (i + 1).toNat = i.toNat + 1 by omega, Nat.succ_mul]]
  refine tR fun _ _ _ => ?_
  refine sV (rAdd rfl rfl rfl (by omega) (by omega)) ?_
  refine pV ?_
  refine ⟨i + 1, rs.set i.toNat ⟨A8, 2 * N, L1⟩, Bd, cd, il (xk f ((i + 1).toNat * (pw p m).toNat)), ⟨rfl, rfl, rfl, rfl, rfl, rfl, rfl, rfl, rfl, trivial⟩, by exact (cs _ [rowsCh 3 rs, ow A8 3 (2 * N) (ints L1), ow A3 22 N (hdrs (rs.set i.toNat ⟨A8, 2 * N, L1⟩)), ow Bd 3 cd (ints (il (xk f ((i + 1).toNat * (pw p m).toNat)))), ow B2 3 b2 (ints (il (xk f ((pw p m).toNat)))), gfR g, ro A (ints (il f))]).trans ((rows_put (r := ⟨A8, 2 * N, L1⟩) (show i.toNat < rs.length by omega) _).trans (cs _ _)), ?_⟩
  refine ⟨⟨⟨by omega, by omega⟩, rfl, by simpa using hrl, fun j hj => ?_⟩, by omega⟩
  rw [row_set]
  by_cases he : i.toNat = j
  ·rw [if_pos ⟨he, by omega⟩, ← he]; exact hR
  ·rw [if_neg (fun e => he e.1)]; exact hrs j (by omega)
 ·try simp only [zbA] at h6
  refine tE ?_
  refine tS ?_
  obtain ⟨hst, hgd0⟩ := rowS_sta hf0 hN hrl (fun j hj => hrs j (by omega))
  refine tR fun _ _ _ => ?_
  refine pV ?_
  refine tS ?_
  refine tS ?_
  refine tR fun _ _ _ => ?_
  refine pV ?_
  refine tB ?_
  refine tr_loop3 (fun (c : Int) (a : Int) (rs : List RowM) => [(5, .int .i64 (N : Int)), (8, .slice A3 N N), (12, .int .i64 a), (13, .int .i64 c), (0, .pointer (some g.p)), (4, .slice none 0 0)]) (fun (c : Int) (a : Int) (rs : List RowM) => [ow A3 22 N (hdrs rs), rowsCh 3 rs, gfR g, ro A (ints (il f))]) (fun (c : Int) (a : Int) (rs : List RowM) => (0 ≤ c ∧ c ≤ N) ∧ (0 ≤ a ∧ a ≤ N) ∧ (rs.length = N ∧ Gd (pw p m) (2 * N) rs) ∧ Fwd f N (vsR rs) c.toNat a.toNat) (fun (c : Int) (a : Int) (rs : List RowM) => (N - c).toNat) (0) (0) (rs) ⟨rfl, rfl, rfl, rfl, rfl, rfl, trivial⟩ (by first | exact cs _ _ | exact CSub.refl _) (⟨⟨by omega, by omega⟩, ⟨by omega, by omega⟩, ⟨hrl, hgd0⟩, hst.fwd hN⟩) (fun c a rs hI => ?_)
  obtain ⟨⟨hc0, hc1⟩, ⟨ha0, ha1⟩, ⟨hrl, hgd⟩, hW⟩ := hI
  refine tS ?_
  refine tS ?_
  refine tR fun _ _ _ => ?_
  iterate 4 refine pV ?_
  refine stg rfl rfl rfl rfl rfl (fun hb => by (have hq := hb; try simp only [zbA] at hq); exact rMove rfl rfl) ?_
  refine stg rfl rfl rfl rfl rfl (fun hb => by (have hq := hb; try simp only [zbA] at hq); exact rMove rfl rfl) ?_
  refine stg rfl rfl rfl rfl rfl (fun hb => by (have hq := hb; try simp only [zbA] at hq); exact rLss rfl (evg rfl hb) (evg rfl hb)) ?_
  refine sV (rAndB rfl rfl rfl rfl) ?_
  refine tC rfl (fun h17 => ?_) (fun h17 => ?_)
  ·try simp only [zbA] at h17
   refine tK ?_
   refine tS ?_
   refine tB ?_
   refine tS ?_
   refine tR fun _ _ _ => ?_
   iterate 2 refine pV ?_
   refine tS ?_
   refine tB ?_
   refine tr_loop1 (fun (k : Int) => [(5, .int .i64 (N : Int)), (8, .slice A3 N N), (12, .int .i64 a), (13, .int .i64 c), (14, .int .i64 k), (0, .pointer (some g.p)), (4, .slice none 0 0), (80, .int .i64 c), (81, .int .i64 (N : Int)), (90, .int .i64 a)]) (fun (k : Int) => [ow A3 22 N (hdrs rs), rowsCh 3 rs, gfR g, ro A (ints (il f))]) (fun (k : Int) => (a ≤ k ∧ k ≤ N) ∧ ∀ i : Nat, a ≤ (i : Int) → (i : Int) < k → (rs.getD i rowD).xs.getD c.toNat 0 = 0) (fun (k : Int) => (N - k).toNat) (a) ⟨rfl, rfl, rfl, rfl, rfl, rfl, rfl, rfl, rfl, rfl, trivial⟩ (by first | exact cs _ _ | exact CSub.refl _) (⟨⟨by omega, by omega⟩, fun i h1 h2 => by omega⟩) (fun k hI => ?_)
   obtain ⟨⟨hk0, hk1⟩, hkz⟩ := hI
   refine tS ?_
   refine tS ?_
   refine tR fun _ _ _ => ?_
   iterate 4 refine pV ?_
   refine stg rfl rfl rfl rfl rfl (fun hb => by (have hq := hb; try simp only [zbA] at hq); exact rMove rfl rfl) ?_
   refine stg rfl rfl rfl rfl rfl (fun hb => by (have hq := hb; try simp only [zbA] at hq); exact rMove rfl rfl) ?_
   refine stg rfl rfl rfl rfl rfl (fun hb => by (have hq := hb; try simp only [zbA] at hq); exact rIdxR rfl (evg rfl hb) (evg rfl hb) (by omega) (by omega) (by omega)) ?_
   refine stg rfl rfl rfl rfl rfl (fun hb => by (have hq := hb; try simp only [zbA] at hq); exact rLdR rfl (evg rfl hb) (by omega)) ?_
   refine stg rfl rfl rfl rfl rfl (fun hb => by (have hq := hb; try simp only [zbA] at hq); exact rMove rfl rfl) ?_
   refine stg rfl rfl rfl rfl rfl (fun hb => by (have hq := hb; try simp only [zbA] at hq); exact (haveI : InB k.toNat rs.length := ⟨by omega⟩; have hw := (hgd.get (show k.toNat < rs.length by omega)).1; rIdxI rfl (evg rfl hb) (evg rfl hb) (by omega) (by omega) (by omega))) ?_
   refine stg rfl rfl rfl rfl rfl (fun hb => by (have hq := hb; try simp only [zbA] at hq); exact (haveI : InB k.toNat rs.length := ⟨by omega⟩; have hw := (hgd.get (show k.toNat < rs.length by omega)).1; rLdI rfl (evg rfl hb) (by omega))) ?_
   refine stg rfl rfl rfl rfl rfl (fun hb => by (have hq := hb; try simp only [zbA] at hq); exact rEql rfl (evg rfl hb) rfl) ?_
   refine sV (rAndB rfl rfl rfl rfl) ?_
   refine tC rfl (fun h20 => ?_) (fun h20 => ?_)
   ·try simp only [zbA] at h20
    refine tK ?_
    refine tB ?_
    refine tR fun _ _ _ => ?_
    refine pV ?_
    refine sV (rAdd rfl rfl rfl (by omega) (by omega)) ?_
    refine pV ?_
    refine ⟨k + 1, ⟨rfl, rfl, rfl, rfl, rfl, rfl, rfl, rfl, rfl, rfl, trivial⟩, by first | exact cs _ _ | exact CSub.refl _, ?_⟩
    refine ⟨⟨⟨by omega, by omega⟩, fun i h1 h2 => ?_⟩, by omega⟩
    by_cases he : (i : Int) = k
    ·have : i = k.toNat := by omega
     rw [this]; exact h20.2
    ·exact hkz i h1 (by omega)
   ·try simp only [zbA] at h20
    refine tE ?_
    refine tS ?_
    refine tS ?_
    refine tR fun _ _ _ => ?_
    iterate 3 refine pV ?_
    refine tC rfl (fun h22 => ?_) (fun h22 => ?_)
    ·try simp only [zbA] at h22
     refine tE ?_
     refine tR fun _ _ _ => ?_
     refine pV ?_
     refine sV (rAdd rfl rfl rfl (by omega) (by omega)) ?_
     refine pV ?_
     refine ⟨c + 1, a, rs, ⟨rfl, rfl, rfl, rfl, rfl, rfl, trivial⟩, by first | exact cs _ _ | exact CSub.refl _, ?_⟩
     refine ⟨⟨⟨by omega, by omega⟩, ⟨ha0, ha1⟩, ⟨hrl, hgd⟩, ?_⟩, by omega⟩
     rw [show (c + 1).toNat = c.toNat + 1 by omega]
     exact hW.skip fun i h1 h2 => by rw [vsR_at, hkz i (by omega) (by omega), el_zero]
    ·try simp only [zbA] at h22
     refine tK ?_
     refine tS ?_
     have hne : (rs.getD k.toNat rowD).xs.getD c.toNat 0 ≠ 0 := h20.resolve_left (fun h => h (by omega))
     haveI : InB k.toNat rs.length := ⟨by omega⟩
     haveI : InB a.toNat rs.length := ⟨by omega⟩
     refine tr_plan [] [(0, 0), (0, 1), (2, 2), (2, 3), (0, 4), (0, 5), (0, 6), (0, 7), (0, 8), (0, 9), (0, 10), (0, 11), (0, 12), (1, 13), (0, 14), (1, 15)] mixed (by kernel_rfl) fun _ _ _ => ?_
     iterate 2 refine pV ?_
     refine stF rfl rfl rfl rfl (cs _ _) (rMove rfl rfl) ?_
     refine stF rfl rfl rfl rfl (cs _ _) (rMove rfl rfl) ?_
     iterate 2 refine pV ?_
     refine sV (rIdxR rfl rfl rfl (by omega) (by omega) (by omega)) ?_
     refine sV (rLdR rfl rfl (by omega)) ?_
     iterate 2 refine pV ?_
     refine sV (rIdxR rfl rfl rfl (by omega) (by omega) (by omega)) ?_
     refine sV (rLdR rfl rfl (by omega)) ?_
     refine sV (rIdxR rfl rfl rfl (by omega) (by omega) (by omega)) ?_
     refine eV (eSt rfl rfl rfl rfl (by first | omega | (simp; omega)) rfl rfl ?_)
     refine ⟨cs _ _, ?_⟩
     refine sV (rIdx rfl rfl rfl (by omega) (by omega) (by simp; omega)) ?_
     refine eV (eSt rfl rfl rfl rfl (by first | omega | (simp; omega)) rfl rfl ?_)
     refine ⟨cs _ _, ?_⟩
     have hh : ((hdrs rs).set a.toNat (.slice (rs.getD k.toNat rowD).A (rs.getD k.toNat rowD).xs.length (rs.getD k.toNat rowD).cap)).set k.toNat (.slice (rs.getD a.toNat rowD).A (rs.getD a.toNat rowD).xs.length (rs.getD a.toNat rowD).cap) = hdrs ((rs.set a.toNat (rs.getD k.toNat rowD)).set k.toNat (rs.getD a.toNat rowD)) := by rw [hdrs_set, hdrs_set]; rfl
     rw [hh]
     refine tr_chunks _ ((cs _ [rowsCh 3 rs, ow A3 22 N (hdrs ((rs.set a.toNat (rs.getD k.toNat rowD)).set k.toNat (rs.getD a.toNat rowD))), gfR g, ro A (ints (il f))]).trans (rows_perm (swap_perm rowD rs (i := a.toNat) (j := k.toNat) (by omega) (by omega)) _)) ?_
     have hrl3 : ((rs.set a.toNat (rs.getD k.toNat rowD)).set k.toNat (rs.getD a.toNat rowD)).length = N := by simpa using hrl
     have hgd3 := hgd.perm (swap_perm rowD rs (i := a.toNat) (j := k.toNat) (by omega) (by omega))
     have hW3 : Fwd f N (vsR ((rs.set a.toNat (rs.getD k.toNat rowD)).set k.toNat (rs.getD a.toNat rowD))) c.toNat a.toNat := by
      have := hW.swap (k := k.toNat) (by omega) (by omega)
      rw [vsR_get, vsR_get] at this
      rw [vsR_set, vsR_set]; exact this
     have hne3 : (((rs.set a.toNat (rs.getD k.toNat rowD)).set k.toNat (rs.getD a.toNat rowD)).getD a.toNat rowD).xs.getD c.toNat 0 ≠ 0 := by
      rw [row_set, row_set]
      by_cases e : k.toNat = a.toNat
      ·rw [if_pos ⟨e, by simp; omega⟩, ← e]; exact hne
      ·rw [if_neg (fun x => e x.1), if_pos ⟨rfl, by omega⟩]; exact hne
     generalize (rs.set a.toNat (rs.getD k.toNat rowD)).set k.toNat (rs.getD a.toNat rowD) = r3 at hrl3 hgd3 hW3 hne3
     haveI : InB a.toNat r3.length := ⟨by omega⟩
     have hw3 := hgd3.get (show a.toNat < r3.length by omega)
     have hen := hw3.2.get (by omega) c.toNat
     have hnz3 : (el ((r3.getD a.toNat rowD).xs.getD c.toNat 0) : El p m mod) ≠ 0 := fun e => hne3 ((el_eq_zero hen).1 e)
     have hw31 := hw3.1
     refine tS ?_
     refine tR fun _ _ _ => ?_
     iterate 3 refine pV ?_
     refine sV (rIdxR rfl rfl rfl (by omega) (by omega) (by omega)) ?_
     refine sV (rLdR rfl rfl (by omega)) ?_
     refine pV ?_
     refine sV (rIdxI rfl rfl rfl (by omega) (by omega) (by omega)) ?_
     refine sV (rLdI rfl rfl (by omega)) ?_
     refine eV (eCallV rfl rfl rfl (gf_InvE g hg _ hnz3) ⟨rfl, rfl, trivial⟩ ?_)
     iterate 5 refine pV ?_
     refine tS ?_
     refine tS ?_
     refine tR fun _ _ _ => ?_
     refine pV ?_
     refine sV (rAdd rfl rfl rfl (by omega) (by omega)) ?_
     refine pV ?_
     refine tB ?_
     refine tr_loop2 (fun (i : Int) (r5 : List RowM) => [(5, .int .i64 (N : Int)), (8, .slice A3 N N), (12, .int .i64 a), (13, .int .i64 c), (15, .int .i64 (Fd.inv (el ((r3.getD a.toNat rowD).xs.getD c.toNat 0)) : El p m mod).1), (17, .int .i64 i), (0, .pointer (some g.p)), (4, .slice none 0 0), (14, .int .i64 k), (80, .int .i64 c), (81, .int .i64 (N : Int)), (90, .int .i64 a), (91, .int .i64 k), (92, .int .i64 (N : Int)), (106, .int .i64 k), (107, .int .i64 (N : Int)), (109, .slice A3 N N), (110, .int .i64 a), (113, .slice A3 N N), (114, .int .i64 k), (117, .slice A3 N N), (118, .int .i64 a), (124, .pointer (some g.p)), (125, .slice A3 N N), (126, .int .i64 a), (129, .int .i64 c), (135, .int .i64 a)]) (fun (i : Int) (r5 : List RowM) => [ow A3 22 N (hdrs r5), rowsCh 3 r5, gfR g, ro A (ints (il f))]) (fun (i : Int) (r5 : List RowM) => (a + 1 ≤ i ∧ i ≤ N) ∧ (r5.length = N ∧ Gd (pw p m) (2 * N) r5) ∧ Fwd f N (vsR r5) c.toNat a.toNat ∧ r5.getD a.toNat rowD = r3.getD a.toNat rowD ∧ ∀ t : Nat, a < (t : Int) → (t : Int) < i → (r5.getD t rowD).xs.getD c.toNat 0 = 0) (fun (i : Int) (r5 : List RowM) => (N - i).toNat) (a + 1) (r3) ⟨rfl, rfl, rfl, rfl, rfl, rfl, rfl, rfl, rfl, rfl, rfl, rfl, rfl, rfl, rfl, rfl, rfl, rfl, rfl, rfl, rfl, rfl, rfl, rfl, rfl, rfl, rfl, trivial⟩ (by first | exact cs _ _ | exact CSub.refl _) (⟨⟨by omega, by omega⟩, ⟨hrl3, hgd3⟩, hW3, rfl, fun t h1 h2 => by omega⟩) (fun i r5 hI => ?_)
     obtain ⟨⟨hi0, hi1⟩, ⟨hrl5, hgd5⟩, hW5, hra5, hz5⟩ := hI
     refine tS ?_
     refine tS ?_
     refine tR fun _ _ _ => ?_
     iterate 3 refine pV ?_
     refine tC rfl (fun h26 => ?_) (fun h26 => ?_)
     ·try simp only [zbA] at h26
      refine tK ?_
      refine tS ?_
      refine tB ?_
      refine tS ?_
      haveI : InB i.toNat r5.length := ⟨by omega⟩
      haveI : InB a.toNat r5.length := ⟨by omega⟩
      have hwi := hgd5.get (show i.toNat < r5.length by omega)
      have hwa := hgd5.get (show a.toNat < r5.length by omega)
      have hwi1 := hwi.1
      have hwa1 := hwa.1
      have heni := hwi.2.get (by omega) c.toNat
      refine tR fun _ _ _ => ?_
      iterate 3 refine pV ?_
      refine sV (rIdxR rfl rfl rfl (by omega) (by omega) (by omega)) ?_
      refine sV (rLdR rfl rfl (by omega)) ?_
      refine pV ?_
      refine sV (rIdxI rfl rfl rfl (by omega) (by omega) (by omega)) ?_
      refine sV (rLdI rfl rfl (by omega)) ?_
      refine pV ?_
      refine eV (eCallV rfl rfl rfl (gf_MulE g hg _ _) ⟨rfl, rfl, rfl, trivial⟩ ?_)
      refine pV ?_
      rw [el_of]
      refine tS ?_
      refine tR fun _ _ _ => ?_
      iterate 2 refine pV ?_
      refine tC rfl (fun h29 => ?_) (fun h29 => ?_)
      ·try simp only [zbA] at h29
       refine tS ?_
       refine tR fun _ _ _ => ?_
       iterate 2 refine pV ?_
       refine tr_chunks _ (((cs _ [rowsCh 3 r5, ow A3 22 N (hdrs r5), gfR g, ro A (ints (il f))]).trans (rows_out (show i.toNat < r5.length by omega) _) : CSub _ [ow (r5.getD i.toNat rowD).A 3 (r5.getD i.toNat rowD).cap (ints (r5.getD i.toNat rowD).xs), rowsCh 3 (r5.eraseIdx i.toNat), ow A3 22 N (hdrs r5), gfR g, ro A (ints (il f))])) ?_
       haveI : RowIn (r5.getD a.toNat rowD) (r5.eraseIdx i.toNat) := ⟨mem_erase (by omega) (by omega)⟩
       refine tB ?_
       refine tr_loop2 (fun (j : Int) (x : List Int) => [(5, .int .i64 (N : Int)), (8, .slice A3 N N), (12, .int .i64 a), (13, .int .i64 c), (17, .int .i64 i), (18, .int .i64 (el ((r5.getD i.toNat rowD).xs.getD c.toNat 0) * Fd.inv (el ((r3.getD a.toNat rowD).xs.getD c.toNat 0)) : El p m mod).1), (19, .int .i64 j), (0, .pointer (some g.p)), (4, .slice none 0 0), (14, .int .i64 k), (15, .int .i64 (Fd.inv (el ((r3.getD a.toNat rowD).xs.getD c.toNat 0)) : El p m mod).1), (80, .int .i64 c), (81, .int .i64 (N : Int)), (90, .int .i64 a), (91, .int .i64 k), (92, .int .i64 (N : Int)), (106, .int .i64 k), (107, .int .i64 (N : Int)), (109, .slice A3 N N), (110, .int .i64 a), (113, .slice A3 N N), (114, .int .i64 k), (117, .slice A3 N N), (118, .int .i64 a), (124, .pointer (some g.p)), (125, .slice A3 N N), (126, .int .i64 a), (129, .int .i64 c), (135, .int .i64 a), (137, .int .i64 i), (138, .int .i64 (N : Int)), (142, .pointer (some g.p)), (143, .slice A3 N N), (144, .int .i64 i), (147, .int .i64 c), (150, .int .i64 (Fd.inv (el ((r3.getD a.toNat rowD).xs.getD c.toNat 0)) : El p m mod).1), (154, .int .i64 c)]) (fun (j : Int) (x : List Int) => [ow (r5.getD i.toNat rowD).A 3 (r5.getD i.toNat rowD).cap (ints x), rowsCh 3 (r5.eraseIdx i.toNat), ow A3 22 N (hdrs r5), gfR g, ro A (ints (il f))]) (fun (j : Int) (x : List Int) => (c ≤ j ∧ j ≤ 2 * N) ∧ x.length = 2 * N ∧ ∀ t : Nat, t < 2 * N → x.getD t 0 = if c ≤ (t : Int) ∧ (t : Int) < j then (el ((r5.getD i.toNat rowD).xs.getD t 0) - (el ((r5.getD i.toNat rowD).xs.getD c.toNat 0) * Fd.inv (el ((r3.getD a.toNat rowD).xs.getD c.toNat 0)) : El p m mod) * el ((r5.getD a.toNat rowD).xs.getD t 0) : El p m mod).1 else (r5.getD i.toNat rowD).xs.getD t 0) (fun (j : Int) (x : List Int) => (2 * N - j).toNat) (c) ((r5.getD i.toNat rowD).xs) ⟨rfl, rfl, rfl, rfl, rfl, rfl, rfl, rfl, rfl, rfl, rfl, rfl, rfl, rfl, rfl, rfl, rfl, rfl, rfl, rfl, rfl, rfl, rfl, rfl, rfl, rfl, rfl, rfl, rfl, rfl, rfl, rfl, rfl, rfl, rfl, rfl, rfl, trivial⟩ (by first | exact cs _ _ | exact CSub.refl _) (⟨⟨by omega, by omega⟩, hwi.1, fun t ht => by rw [if_neg (by omega)]⟩) (fun j x hI => ?_)
       obtain ⟨⟨hj0, hj1⟩, hxl2, hx⟩ := hI
       refine tS ?_
       refine tS ?_
       refine tR fun _ _ _ => ?_
       iterate 2 refine pV ?_
       refine sV (rMul rfl rfl rfl (by omega) (by omega)) ?_
       refine pV ?_
       refine tC rfl (fun h31 => ?_) (fun h31 => ?_)
       ·try simp only [zbA] at h31
        refine tK ?_
        refine tS ?_
        refine tB ?_
        refine tr_draw [0, 1, 2, 3, 4, 5, 6, 7, 8, 9, 10, 11, 12, 13, 14, 15, 16, 17, 18, 19, 20, 21, 22, 23, 24] [25] mixed (by kernel_rfl) fun _ _ _ => ?_
        iterate 2 refine pV ?_
        refine sV (rIdxR rfl rfl rfl (by omega) (by omega) (by omega)) ?_
        refine sV (rLdR rfl rfl (by omega)) ?_
        iterate 4 refine pV ?_
        refine sV (rIdxR rfl rfl rfl (by omega) (by omega) (by omega)) ?_
        refine sV (rLdR rfl rfl (by omega)) ?_
        refine pV ?_
        refine sV (rIdxI rfl rfl rfl (by omega) (by omega) (by omega)) ?_
        refine sV (rLdI rfl rfl (by omega)) ?_
        iterate 4 refine pV ?_
        refine sV (rIdxR rfl rfl rfl (by omega) (by omega) (by omega)) ?_
        refine sV (rLdR rfl rfl (by omega)) ?_
        refine pV ?_
        refine sV (rIdxI rfl rfl rfl (by omega) (by omega) (by omega)) ?_
        refine sV (rLdI rfl rfl (by omega)) ?_
        refine eV (eCallV rfl rfl rfl (gf_MulE g hg _ _) ⟨rfl, rfl, rfl, trivial⟩ ?_)
        refine eV (eCallV rfl rfl rfl (gf_SubE g hg _ _) ⟨rfl, rfl, rfl, trivial⟩ ?_)
        refine sV (rIdxI rfl rfl rfl (by omega) (by omega) (by omega)) ?_
        refine eV (eStI rfl rfl rfl rfl (by omega) ?_)
        refine tR fun _ _ _ => ?_
        refine pV ?_
        refine sV (rAdd rfl rfl rfl (by omega) (by omega)) ?_
        refine pV ?_
        refine ⟨j + 1, x.set j.toNat (el (x.getD j.toNat 0) - el (el ((el ((r5.getD i.toNat rowD).xs.getD c.toNat 0) * Fd.inv (el ((r3.getD a.toNat rowD).xs.getD c.toNat 0)) : El p m mod)).1 * el ((r5.getD a.toNat rowD).xs.getD j.toNat 0) : El p m mod).1 : El p m mod).1, ⟨rfl, rfl, rfl, rfl, rfl, rfl, rfl, rfl, rfl, rfl, rfl, rfl, rfl, rfl, rfl, rfl, rfl, rfl, rfl, rfl, rfl, rfl, rfl, rfl, rfl, rfl, rfl, rfl, rfl, rfl, rfl, rfl, rfl, rfl, rfl, rfl, rfl, trivial⟩, by first | exact cs _ _ | exact CSub.refl _, ?_⟩
        refine ⟨⟨⟨by omega, by omega⟩, by simpa using hxl2, fun t ht => ?_⟩, by omega⟩
        rw [getD_set]
        by_cases he : j.toNat = t
        ·subst he
         rw [if_pos ⟨rfl, by omega⟩, if_pos (by omega), hx _ (by omega), if_neg (by omega), el_of, el_of]
        ·rw [if_neg (fun e => he e.1), hx t ht]
         by_cases hct : c ≤ (t : Int) ∧ (t : Int) < j
         ·rw [if_pos hct, if_pos (by omega)]
         ·rw [if_neg hct, if_neg (by omega)]
       ·try simp only [zbA] at h31
        have hset : hdrs (r5.set i.toNat (⟨(r5.getD i.toNat rowD).A, (r5.getD i.toNat rowD).cap, x⟩ : RowM)) = hdrs r5 := by
         have e1 : RowM.hdr (⟨(r5.getD i.toNat rowD).A, (r5.getD i.toNat rowD).cap, x⟩ : RowM) = RowM.hdr (r5.getD i.toNat rowD) := by simp only [RowM.hdr]; rw [hxl2, hwi1]
         rw [hdrs_set, e1, ← hdrs_set]
         congr 1
         rw [List.getD_eq_getElem?_getD, List.getElem?_eq_getElem (show i.toNat < r5.length by omega)]
         exact List.set_getElem_self _
        refine tE ?_
        refine tR fun _ _ _ => ?_
        refine pV ?_
        refine sV (rAdd rfl rfl rfl (by omega) (by omega)) ?_
        refine pV ?_
        refine ⟨i + 1, r5.set i.toNat (⟨(r5.getD i.toNat rowD).A, (r5.getD i.toNat rowD).cap, x⟩ : RowM), ⟨rfl, rfl, rfl, rfl, rfl, rfl, rfl, rfl, rfl, rfl, rfl, rfl, rfl, rfl, rfl, rfl, rfl, rfl, rfl, rfl, rfl, rfl, rfl, rfl, rfl, rfl, rfl, trivial⟩, by rw [show hdrs (r5.set i.toNat (⟨(r5.getD i.toNat rowD).A, (r5.getD i.toNat rowD).cap, x⟩ : RowM)) = hdrs r5 from hset]; exact (cs _ [ow (r5.getD i.toNat rowD).A 3 (r5.getD i.toNat rowD).cap (ints x), rowsCh 3 (r5.eraseIdx i.toNat), ow A3 22 N (hdrs r5), gfR g, ro A (ints (il f))]).trans ((rows_in (r := (⟨(r5.getD i.toNat rowD).A, (r5.getD i.toNat rowD).cap, x⟩ : RowM)) (show i.toNat < r5.length by omega) _).trans (cs _ _)), ?_⟩
        have hxe : x = addR (-(el ((r5.getD i.toNat rowD).xs.getD c.toNat 0) * Fd.inv (el ((r3.getD a.toNat rowD).xs.getD c.toNat 0)) : El p m mod)) (r5.getD i.toNat rowD).xs (r5.getD a.toNat rowD).xs := row_part (c := c.toNat) (by omega) (by omega) hwi.2 (fun t ht => by
          rw [hx t (by omega)]
          by_cases hct : c ≤ (t : Int)
          ·rw [if_pos ⟨hct, by omega⟩, if_pos (by omega)]
          ·rw [if_neg (fun h => hct h.1), if_neg (by omega)]) (fun t ht => by
          have := hW5.zer a.toNat t (Nat.le_refl _) (by omega) ht
          rwa [vsR_at] at this)
        refine ⟨⟨⟨by omega, by omega⟩, ⟨by simpa using hrl5, hgd5.set _ hxl2 ?_⟩, ?_, ?_, fun t h1 h2 => ?_⟩, by omega⟩
        ·rw [hxe]; exact addR_in _ _ _
        ·have := hW5.plus (i := i.toNat) (by omega) (by omega) (-(el ((r5.getD i.toNat rowD).xs.getD c.toNat 0) * Fd.inv (el ((r3.getD a.toNat rowD).xs.getD c.toNat 0)) : El p m mod))
         rw [vsR_get, vsR_get] at this
         rw [vsR_set, hxe, rw_addR _ _ _ (by omega)]; exact this
        ·rw [row_set, if_neg (by omega)]; exact hra5
        ·rw [row_set]
         split
         ·rename_i he
          obtain ⟨rfl, he⟩ := he
          show x.getD c.toNat 0 = 0
          rw [hxe, addR_get _ _ _ (by omega), hra5]
          refine congrArg Subtype.val (show (_ : El p m mod) = 0 from ?_)
          have := Fd.inv_mul _ hnz3
          grind
         ·exact hz5 t h1 (by omega)
      ·try simp only [zbA] at h29
       refine tK ?_
       refine tR fun _ _ _ => ?_
       refine pV ?_
       refine sV (rAdd rfl rfl rfl (by omega) (by omega)) ?_
       refine pV ?_
       refine ⟨i + 1, r5, ⟨rfl, rfl, rfl, rfl, rfl, rfl, rfl, rfl, rfl, rfl, rfl, rfl, rfl, rfl, rfl, rfl, rfl, rfl, rfl, rfl, rfl, rfl, rfl, rfl, rfl, rfl, rfl, trivial⟩, by first | exact cs _ _ | exact CSub.refl _, ?_⟩
       refine ⟨⟨⟨by omega, by omega⟩, ⟨hrl5, hgd5⟩, hW5, hra5, fun t h1 h2 => ?_⟩, by omega⟩
       by_cases he : (t : Int) = i
       ·have ht : t = i.toNat := by omega
        have hm0 : ((el ((r5.getD i.toNat rowD).xs.getD c.toNat 0) * Fd.inv (el ((r3.getD a.toNat rowD).xs.getD c.toNat 0)) : El p m mod)) = 0 := El.ext h29
        have := (Fd.mul_eq_zero hm0).resolve_right (Fd.inv_ne hnz3)
        rw [ht]; exact (el_eq_zero heni).1 this
       ·exact hz5 t h1 (by omega)
     ·try simp only [zbA] at h26
      refine tE ?_
      refine tR fun _ _ _ => ?_
      refine pV ?_
      refine sV (rAdd rfl rfl rfl (by omega) (by omega)) ?_
      refine pV ?_
      refine tR fun _ _ _ => ?_
      refine pV ?_
      refine sV (rAdd rfl rfl rfl (by omega) (by omega)) ?_
      refine pV ?_
      refine ⟨c + 1, a + 1, r5, ⟨rfl, rfl, rfl, rfl, rfl, rfl, trivial⟩, by first | exact cs _ _ | exact CSub.refl _, ?_⟩
      refine ⟨⟨⟨by omega, by omega⟩, ⟨by omega, by omega⟩, ⟨hrl5, hgd5⟩, ?_⟩, by omega⟩
      rw [show (c + 1).toNat = c.toNat + 1 by omega, show (a + 1).toNat = a.toNat + 1 by omega]
      refine hW5.push (by omega) (by omega) ?_ (fun i h1 h2 => ?_)
      ·rw [vsR_at, hra5]; exact hnz3
      ·rw [vsR_at, hz5 i (by omega) (by omega), el_zero]
  ·try simp only [zbA] at h17
   refine tE ?_
   refine tS ?_
   refine tR fun _ _ _ => ?_
   refine pV ?_
   refine tS ?_
   refine tS ?_
   refine tr_capR 3 rs fun hcap => ?_
   obtain ⟨rs6, hrs6⟩ : ∃ r, r = rs.drop a.toNat := ⟨_, rfl⟩
   have hr6l : rs6.length = N - a.toNat := by rw [hrs6, List.length_drop, hrl]
   have hr6m : ∀ r ∈ rs6, r ∈ rs := fun r hr => by rw [hrs6] at hr; exact List.mem_of_mem_drop hr
   refine tR fun _ _ _ => ?_
   iterate 2 refine pV ?_
   refine sV (rCut rfl rfl rfl (by omega) (by omega) (by omega)) ?_
   refine sV (rLen rfl rfl) ?_
   refine pV ?_
   refine tr_chunks [ro (cutA A3 a.toNat N) (hdrs rs6), rowsR rs, gfR g] (hrs6 ▸ (cs _ [ow A3 22 N (hdrs rs), rowsCh 3 rs, gfR g]).trans ((ow_ro _).trans ((ro_cutH a.toNat N (by omega) _).trans (CSub.cons _ ((CSub.drop _ _).trans (rows_weak _)))))) ?_
   refine tB ?_
   refine tr_nilR 22 3 ?_
   refine tr_loop4 (fun (j : Int) (Bq : Option Addr) (cq : Nat) (os : List RowM) => [(5, .int .i64 (N : Int)), (190, .slice (cutA A3 a.toNat N) (N - a.toNat) (N - a.toNat)), (191, .int .i64 ((N - a.toNat : Nat) : Int)), (192, .int .i64 j), (20, .slice Bq os.length cq), (0, .pointer (some g.p)), (4, .slice none 0 0)]) (fun (j : Int) (Bq : Option Addr) (cq : Nat) (os : List RowM) => [ow Bq 22 cq (hdrs os), rowsCh 3 os, ro (cutA A3 a.toNat N) (hdrs rs6), rowsR rs, gfR g]) (fun (j : Int) (Bq : Option Addr) (cq : Nat) (os : List RowM) => (0 ≤ j ∧ j ≤ rs6.length) ∧ xss os = (rs6.take j.toNat).map (fun r : RowM => il (rpV N (rw' r.xs : Vc (El p m mod))))) (fun (j : Int) (Bq : Option Addr) (cq : Nat) (os : List RowM) => (rs6.length - j).toNat) (0) (none) (0) ([]) ⟨rfl, rfl, rfl, rfl, rfl, rfl, rfl, trivial⟩ (by first | exact cs _ _ | exact CSub.refl _) (⟨⟨by omega, by omega⟩, rfl⟩) (fun j Bq cq os hI => ?_)
   obtain ⟨⟨hj0, hj1⟩, hos⟩ := hI
   have hol := congrArg List.length hos
   simp only [xss_length, List.length_map, List.length_take] at hol
   refine tS ?_
   refine tR fun _ _ _ => ?_
   refine pV ?_
   refine tS ?_
   refine tC rfl (fun h37 => ?_) (fun h37 => ?_)
   ·try simp only [zbA] at h37
    refine tK ?_
    refine tS ?_
    refine tB ?_
    refine tS ?_
    refine tR fun _ _ _ => ?_
    refine sV (rIdxR rfl rfl rfl (by omega) (by omega) (by omega)) ?_
    refine sV (rLdR rfl rfl (by omega)) ?_
    refine pV ?_
    have hmj := hr6m _ (getD_mem (show j.toNat < rs6.length by omega) rowD)
    have hcj := hcap _ hmj
    have hgj := (hgd _ hmj).1
    have hpd := pol_drop (p := p) (m := m) (mod := mod) (n := N) hgj
    refine tr_chunks [ro (cutA (rs6.getD j.toNat rowD).A N (rs6.getD j.toNat rowD).cap) (ints ((rs6.getD j.toNat rowD).xs.drop N)), ow Bq 22 cq (hdrs os), rowsCh 3 os, ro (cutA A3 a.toNat N) (hdrs rs6), rowsR rs, gfR g] ((cs _ [rowsR rs, ow Bq 22 cq (hdrs os), rowsCh 3 os, ro (cutA A3 a.toNat N) (hdrs rs6), gfR g]).trans ((row_ro hmj _).trans ((ro_cut N _ hcj _).trans (cs _ _)))) ?_
    refine tR fun _ _ _ => ?_
    iterate 4 refine pV ?_
    refine sV (rCut rfl rfl rfl (by omega) (by omega) (by omega)) ?_
    simp only [Int.toNat_natCast]
    refine eV (eCall1 rfl rfl rfl (poly_CanonE g hg (cutA (rs6.getD j.toNat rowD).A N (rs6.getD j.toNat rowD).cap) _ ((rs6.getD j.toNat rowD).cap - N) ((rs6.getD j.toNat rowD).xs.drop N) (by rw [List.length_drop]) (by rw [List.length_drop]; omega)) ⟨rfl, rfl, trivial⟩ ?_)
    rintro _ _ ⟨Bo, co, rfl, hco, rfl⟩
    rw [hpd]
    refine eV (eLit1 rfl rfl rfl rfl rfl (fun A39a => ?_))
    refine eV (eAppR rfl rfl rfl rfl rfl (by first | rfl | simp | omega) (by omega) (fun A39b c39b => ?_))
    refine pV ?_
    refine tR fun _ _ _ => ?_
    refine sV (rAdd rfl rfl rfl (by omega) (by omega)) ?_
    refine pV ?_
    refine ⟨j + 1, A39b, c39b, os ++ [⟨Bo, co, il (rpV N (rw' (rs6.getD j.toNat rowD).xs : Vc (El p m mod)))⟩], ⟨rfl, rfl, rfl, rfl, rfl, rfl, rfl, trivial⟩, by exact rows_app, ?_⟩
    refine ⟨⟨⟨by omega, by omega⟩, ?_⟩, by omega⟩
    rw [show (j + 1).toNat = j.toNat + 1 by omega, take_getD (by omega) rowD, List.map_append, xss_snoc, hos]
    rfl
   ·try simp only [zbA] at h37
    refine tE ?_
    refine tS ?_
    refine tR fun _ _ _ => ?_
    iterate 2 refine pV ?_
    have hB := hW.done hN hst (by omega) (by omega)
    rw [xss_drop_rp (f := f)] at hB
    have hj6 : j.toNat = rs6.length := by omega
    rw [hj6, List.take_length] at hos
    exact tr_ret ⟨trivial, _, _, rfl, ⟨_, _, rfl, Bq, cq, os, rfl, rfl, rfl, _, by rw [hos, List.map_map]; rfl, by rw [← hrs6] at hB; exact hB, by omega⟩, cs _ _, trivial, trivial, trivial⟩
end Go.Proofs.YtbhoeaijpnjgdaaGreat

set_option maxRecDepth 100000
set_option maxHeartbeats 1000000
namespace Go.Proofs.YtbhoeaijpnjgdaaGreat
open Go.RowKit
section
variable {p m : Int} {mod : List Int} [hF : IsF p m mod]
theorem xss_at {rs : List RowM} {ps : List (Po (El p m mod))} (h : xss rs = ps.map (fun b => il b)) {i : Nat} (hi : i < rs.length) : (rs.getD i rowD).xs = il (ps.getD i 0) := by
 have hl := congrArg List.length h
 simp only [xss_length, List.length_map] at hl
 have := congrArg (fun l => l.getD i []) h
 simp only [xss, List.getD_eq_getElem?_getD, List.getElem?_map, List.getElem?_eq_getElem hi, List.getElem?_eq_getElem (show i < ps.length by omega)] at this
 rw [List.getD_eq_getElem?_getD, List.getElem?_eq_getElem hi, List.getD_eq_getElem?_getD, List.getElem?_eq_getElem (show i < ps.length by omega)]
 exact this
theorem xss_len {rs : List RowM} {ps : List (Po (El p m mod))} (h : xss rs = ps.map (fun b => il b)) : rs.length = ps.length := by
 have hl := congrArg List.length h
 simpa only [xss_length, List.length_map] using hl
theorem xss_add {rs : List RowM} {ps : List (Po (El p m mod))} (h : xss rs = ps.map (fun b => il b)) (A : Option Addr) (c : Nat) (d : Po (El p m mod)) : xss (rs ++ [⟨A, c, il d⟩]) = (ps ++ [d]).map (fun b => il b) := by
 rw [xss_snoc, h, List.map_append]; rfl
theorem pol_one_c (x : Int) : (pol [x] : Po (El p m mod)) = Po.C (el x) := pol_one_k x
theorem all_el {q : Int} (hq : q = pw p m) (c : El p m mod) : ∃ s ∈ upI q.toNat, (el s : El p m mod) = c := by
 have hb := El.bd c
 refine ⟨c.1, List.mem_map.2 ⟨c.1.toNat, List.mem_range.2 (by omega), by omega⟩, el_of c⟩
end
def Al (A : Option Addr) (c : Nat) (l : List Int) (qs rs : List RowM) : Prop := qs = rs ∨ (qs = [] ∧ rs = [⟨A, c, l⟩])
theorem al_sub {A : Option Addr} {c : Nat} {l : List Int} {qs rs : List RowM} (h : Al A c l qs rs) (e : TypeId) (F : List Chunk) : CSub (rowsCh e qs :: ro A (ints l) :: F) (rowsR rs :: ro A (ints l) :: F) := by
 rcases h with rfl | ⟨rfl, rfl⟩
 ·exact rows_weak _
 ·exact (CSub.drop _ _).trans ((ro_dup F).trans (rowsR_one (r := ⟨A, c, l⟩) _))
theorem fac_split_ent : Enters Tryz.prog 44 := enters_of Tryz.func44 (by kernel_rfl) (by kernel_rfl)
theorem fac_split (g : GfM) {p m : Int} {mod : List Int} [hF : IsF p m mod] (hg : GOk g p m mod) (A : Option Addr) (c0 : Nat) (f : Po (El p m mod)) (hl : Po.lead f = 1) (h2 : 2 ≤ Po.len f) (h9 : Po.len f ≤ 257) (hs : Po.Sf f) :
  Pure Tryz.prog 44 #[.pointer (some g.p), .slice A (il f).length c0] [gfR g, ro A (ints (il f))] (two (fun v ca cb => ∃ B cap rs qs, ∃ ps : List (Po (El p m mod)), v = .slice B rs.length cap ∧ ca = ow B 22 cap (hdrs rs) ∧ cb = rowsCh 3 qs ∧ Al A c0 (il f) qs rs ∧ xss rs = ps.map (fun b => il b) ∧ IrL f ps ∧ prd ps = f ∧ rs.length ≤ 256)) := by
 have hq2 := hF.q2
 have hq9 := hF.out.1.1.q
 have hgq := hg.eq
 have hf0 : f ≠ 0 := lead1_ne hl
 have hilf := il_length f
 refine pure_of (args := [.pointer (some g.p), .slice A (il f).length c0]) 70 Tryz.func44 rfl rfl rfl fac_split_ent ⟨id, id, trivial⟩ (fun w0 => ?_)
 refine tS ?_
 refine tR fun _ _ _ => ?_
 refine eV (eBox rfl rfl rfl rfl rfl (fun p0 => ?_))
 refine pV ?_
 refine tS ?_
 refine tR fun _ _ _ => ?_
 refine sV (rLd0 rfl rfl) ?_
 refine pV ?_
 refine eV (eCall2 rfl rfl rfl (fac_fixed g hg A (il f).length c0 (Po.len f - 1) f (by omega) (by omega) (by omega) hl h9) ⟨rfl, rfl, trivial⟩ ?_)
 rintro _ _ _ ⟨B1, cap1, os, rfl, rfl, rfl, bs, hbs, hB, hol⟩
 refine pV ?_
 refine tS ?_
 have hbl := xss_len hbs
 refine tR fun _ _ _ => ?_
 refine pV ?_
 refine eV (eLit1 rfl rfl rfl rfl rfl (fun A2 => ?_))
 refine pV ?_
 rw [show [Value.slice A (il f).length c0] = hdrs [(⟨A, c0, il f⟩ : RowM)] from rfl]
 refine tS ?_
 refine tS ?_
 refine tR fun _ _ _ => ?_
 refine pV ?_
 refine sV (rLen rfl rfl) ?_
 refine pV ?_
 refine tB ?_
 refine tr_loop6 (fun (i : Int) (Bp : Option Addr) (cp : Nat) (rs : List RowM) (qs : List RowM) (ps : List (Po (El p m mod))) => [(2, .pointer (some p0)), (6, .slice Bp rs.length cp), (5, .slice B1 os.length cap1), (20, .slice B1 os.length cap1), (21, .int .i64 (os.length : Nat)), (22, .int .i64 i), (4, .slice none 0 0)]) (fun (i : Int) (Bp : Option Addr) (cp : Nat) (rs : List RowM) (qs : List RowM) (ps : List (Po (El p m mod))) => [ow Bp 22 cp (hdrs rs), rowsCh 3 qs, ow B1 22 cap1 (hdrs os), rowsCh 3 os, blk p0 25 [.pointer (some g.p)], gfR g, ro A (ints (il f))]) (fun (i : Int) (Bp : Option Addr) (cp : Nat) (rs : List RowM) (qs : List RowM) (ps : List (Po (El p m mod))) => (0 ≤ i ∧ i ≤ os.length) ∧ Al A c0 (il f) qs rs ∧ xss rs = ps.map (fun b => il b) ∧ SpB f bs i.toNat ps) (fun (i : Int) (Bp : Option Addr) (cp : Nat) (rs : List RowM) (qs : List RowM) (ps : List (Po (El p m mod))) => (os.length - i).toNat) (0) (A2) (1) ([⟨A, c0, il f⟩]) ([]) ([f]) ⟨rfl, rfl, rfl, rfl, rfl, rfl, rfl, trivial⟩ (by exact (rows_nil 3 _).trans (cs _ _)) (⟨⟨by omega, by omega⟩, .inr ⟨rfl, rfl⟩, rfl, SpB.start hl h2⟩) (fun i Bp cp rs qs ps hI => ?_)
 obtain ⟨⟨hi0, hi1⟩, hal, hxs, hS⟩ := hI
 have hpsl := xss_len hxs
 have hple := hS.pts.le
 refine tS ?_
 refine tR fun _ _ _ => ?_
 refine pV ?_
 refine tS ?_
 refine tC rfl (fun h4 => ?_) (fun h4 => ?_)
 ·try simp only [zbA] at h4
  refine tK ?_
  refine tS ?_
  refine tB ?_
  refine tS ?_
  haveI : InB i.toNat os.length := ⟨by omega⟩
  have hvx := xss_at hbs (show i.toNat < os.length by omega)
  have hvm := hB.sub _ (Vc.getD_eq_mem (show i.toNat < bs.length by omega) 0)
  have hvl := il_length (bs.getD i.toNat 0)
  have hvl2 := congrArg List.length hvx
  refine tR fun _ _ _ => ?_
  refine sV (rIdxR rfl rfl rfl (by omega) (by omega) (by omega)) ?_
  refine sV (rLdR rfl rfl (by omega)) ?_
  refine eV (eAlloc rfl rfl rfl (fun p5 => ?_))
  refine eV (eSt0 rfl rfl rfl rfl rfl rfl ?_)
  refine tS ?_
  refine tS ?_
  refine tR fun _ _ _ => ?_
  refine pV ?_
  refine sV (rLen rfl rfl) ?_
  refine pV ?_
  refine sV (rLen rfl rfl) ?_
  refine pV ?_
  refine tC rfl (fun h6 => ?_) (fun h6 => ?_)
  ·try simp only [zbA] at h6
   refine tE ?_
   refine tS ?_
   refine tR fun _ _ _ => ?_
   iterate 2 refine pV ?_
   have hIr := hS.done hl hs hB (by omega)
   exact tr_ret ⟨trivial, _, _, rfl, ⟨_, _, rfl, Bp, cp, rs, qs, ps, rfl, rfl, rfl, hal, hxs, hIr, hS.pts.prod, by omega⟩, cs _ _, trivial, trivial, trivial⟩
  ·try simp only [zbA] at h6
   refine tK ?_
   refine tS ?_
   refine tS ?_
   refine tR fun _ _ _ => ?_
   refine sV (rLd0 rfl rfl) ?_
   refine sV (rLen rfl rfl) ?_
   refine pV ?_
   refine tC rfl (fun h7 => ?_) (fun h7 => ?_)
   ·try simp only [zbA] at h7
    refine tE ?_
    refine tR fun _ _ _ => ?_
    refine sV (rAdd rfl rfl rfl (by omega) (by omega)) ?_
    refine pV ?_
    refine ⟨i + 1, Bp, cp, rs, qs, ps, ⟨rfl, rfl, rfl, rfl, rfl, rfl, rfl, trivial⟩, by first | exact cs _ _ | exact CSub.refl _, ?_⟩
    refine ⟨⟨⟨by omega, by omega⟩, hal, hxs, ?_⟩, by omega⟩
    rw [show (i + 1).toNat = i.toNat + 1 by omega]
    exact hS.skip (by omega) (by omega)
   ·try simp only [zbA] at h7
    refine tK ?_
    refine tS ?_
    refine tR fun _ _ _ => ?_
    refine eV (eAlloc rfl rfl rfl (fun p8 => ?_))
    refine tS ?_
    refine tS ?_
    refine tr_chunks [rowsR rs, ro A (ints (il f)), ow Bp 22 cp (hdrs rs), blk p8 54 [.slice none 0 0], blk p5 22 [.slice (os.getD i.toNat rowD).A (os.getD i.toNat rowD).xs.length (os.getD i.toNat rowD).cap], ow B1 22 cap1 (hdrs os), rowsCh 3 os, blk p0 25 [.pointer (some g.p)], gfR g] ((cs _ [rowsCh 3 qs, ro A (ints (il f)), ow Bp 22 cp (hdrs rs), blk p8 54 [.slice none 0 0], blk p5 22 [.slice (os.getD i.toNat rowD).A (os.getD i.toNat rowD).xs.length (os.getD i.toNat rowD).cap], ow B1 22 cap1 (hdrs os), rowsCh 3 os, blk p0 25 [.pointer (some g.p)], gfR g]).trans (al_sub hal 3 _)) ?_
    refine tR fun _ _ _ => ?_
    refine pV ?_
    refine sV (rLen rfl rfl) ?_
    refine pV ?_
    refine tB ?_
    refine tr_nilR 22 3 ?_
    refine tr_loop5 (fun (k : Int) (Bn : Option Addr) (cn : Nat) (ns : List RowM) (nps : List (Po (El p m mod))) => [(2, .pointer (some p0)), (8, .pointer (some p5)), (9, .pointer (some p8)), (34, .slice Bp rs.length cp), (35, .int .i64 (rs.length : Nat)), (36, .int .i64 k), (4, .slice none 0 0), (5, .slice B1 os.length cap1), (6, .slice Bp rs.length cp), (20, .slice B1 os.length cap1), (21, .int .i64 (os.length : Nat)), (22, .int .i64 i), (26, .slice Bp rs.length cp), (27, .int .i64 rs.length), (28, .slice B1 os.length cap1), (29, .int .i64 os.length)]) (fun (k : Int) (Bn : Option Addr) (cn : Nat) (ns : List RowM) (nps : List (Po (El p m mod))) => [blk p8 54 [.slice Bn ns.length cn], ow Bn 22 cn (hdrs ns), rowsCh 3 ns, rowsR rs, ow Bp 22 cp (hdrs rs), blk p5 22 [.slice (os.getD i.toNat rowD).A (os.getD i.toNat rowD).xs.length (os.getD i.toNat rowD).cap], ow B1 22 cap1 (hdrs os), rowsCh 3 os, blk p0 25 [.pointer (some g.p)], gfR g, ro A (ints (il f))]) (fun (k : Int) (Bn : Option Addr) (cn : Nat) (ns : List RowM) (nps : List (Po (El p m mod))) => (0 ≤ k ∧ k ≤ rs.length) ∧ xss ns = nps.map (fun b => il b) ∧ SpP bs (bs.getD i.toNat 0) ps k.toNat nps) (fun (k : Int) (Bn : Option Addr) (cn : Nat) (ns : List RowM) (nps : List (Po (El p m mod))) => (rs.length - k).toNat) (0) (none) (0) ([]) ([]) ⟨rfl, rfl, rfl, rfl, rfl, rfl, rfl, rfl, rfl, rfl, rfl, rfl, rfl, rfl, rfl, rfl, trivial⟩ (by first | exact cs _ _ | exact CSub.refl _) (⟨⟨by omega, by omega⟩, rfl, SpP.start⟩) (fun k Bn cn ns nps hI => ?_)
    obtain ⟨⟨hk0, hk1⟩, hxn, hP⟩ := hI
    refine tS ?_
    refine tR fun _ _ _ => ?_
    refine pV ?_
    refine tS ?_
    refine tC rfl (fun h10 => ?_) (fun h10 => ?_)
    ·try simp only [zbA] at h10
     refine tK ?_
     refine tS ?_
     refine tB ?_
     refine tS ?_
     haveI : InB k.toNat rs.length := ⟨by omega⟩
     have hpx := xss_at hxs (show k.toNat < rs.length by omega)
     have hpm := Vc.getD_eq_mem (show k.toNat < ps.length by omega) (0 : Po (El p m mod))
     have hpe := hS.pts.each _ hpm
     have hpd := hS.pts.dvd hpm
     have hpl := Po.dvd_len hpd hf0
     have hg0 := lead1_ne hpe.1
     have hpl2 := il_length (ps.getD k.toNat 0)
     refine tR fun _ _ _ => ?_
     refine sV (rIdxR rfl rfl rfl (by omega) (by omega) (by omega)) ?_
     refine sV (rLdR rfl rfl (by omega)) ?_
     refine pV ?_
     refine tS ?_
     rw [hpx]
     refine tR fun _ _ _ => ?_
     refine pV ?_
     refine eV (eAlloc rfl rfl rfl (fun p12 => ?_))
     refine eV (eSt0 rfl rfl rfl rfl rfl rfl ?_)
     refine tr_chunks [ro (rs.getD k.toNat rowD).A (ints (il (ps.getD k.toNat 0))), blk p12 22 [.slice (rs.getD k.toNat rowD).A (il (ps.getD k.toNat 0)).length (rs.getD k.toNat rowD).cap], blk p8 54 [.slice Bn ns.length cn], ow Bn 22 cn (hdrs ns), rowsCh 3 ns, rowsR rs, ow Bp 22 cp (hdrs rs), blk p5 22 [.slice (os.getD i.toNat rowD).A (os.getD i.toNat rowD).xs.length (os.getD i.toNat rowD).cap], ow B1 22 cap1 (hdrs os), rowsCh 3 os, blk p0 25 [.pointer (some g.p)], gfR g, ro A (ints (il f))] (hpx ▸ (cs _ [rowsR rs, blk p12 22 [.slice (rs.getD k.toNat rowD).A (rs.getD k.toNat rowD).xs.length (rs.getD k.toNat rowD).cap], blk p8 54 [.slice Bn ns.length cn], ow Bn 22 cn (hdrs ns), rowsCh 3 ns, ow Bp 22 cp (hdrs rs), blk p5 22 [.slice (os.getD i.toNat rowD).A (os.getD i.toNat rowD).xs.length (os.getD i.toNat rowD).cap], ow B1 22 cap1 (hdrs os), rowsCh 3 os, blk p0 25 [.pointer (some g.p)], gfR g, ro A (ints (il f))]).trans ((row_ro (getD_mem (show k.toNat < rs.length by omega) rowD) _).trans (cs _ _))) ?_
     refine tS ?_
     refine tR fun _ _ _ => ?_
     refine sV (rLd0 rfl rfl) ?_
     refine eV (eCall1 rfl rfl rfl (gf_Elements _) ⟨rfl, trivial⟩ ?_)
     rintro _ _ ⟨B13, rfl, rfl⟩
     refine tB ?_
     refine tr_range (hseq := elems_gives (by omega) (by omega)) rfl gf_Elements1_ent rfl rfl rfl rfl rfl (fun (q : (Option Addr) × Nat × (List RowM) × (List (Po (El p m mod))) × (Option Addr) × Nat × (Po (El p m mod))) => match q with | (Bn, cn, ms, ds, Br, cr, rest) => [blk p12 22 [.slice Br (il rest).length cr], ro Br (ints (il rest)), blk p8 54 [.slice Bn ms.length cn], ow Bn 22 cn (hdrs ms), rowsCh 3 ms, rowsR rs, ow Bp 22 cp (hdrs rs), blk B13 25 [.pointer (some g.p)], blk p5 22 [.slice (os.getD i.toNat rowD).A (os.getD i.toNat rowD).xs.length (os.getD i.toNat rowD).cap], ow B1 22 cap1 (hdrs os), rowsCh 3 os, blk p0 25 [.pointer (some g.p)], gfR g, ro A (ints (il f))]) (fun (pre : List Int) (q : (Option Addr) × Nat × (List RowM) × (List (Po (El p m mod))) × (Option Addr) × Nat × (Po (El p m mod))) => match q with | (Bn, cn, ms, ds, Br, cr, rest) => xss ms = (nps ++ ds).map (fun b => il b) ∧ SpE (bs.getD i.toNat 0) (ps.getD k.toNat 0) pre ds rest ∧ 2 ≤ Po.len rest) (Bn, cn, ns, [], (rs.getD k.toNat rowD).A, (rs.getD k.toNat rowD).cap, (ps.getD k.toNat 0)) (by first | exact cs _ _ | exact CSub.refl _) (⟨by rw [List.append_nil]; exact hxn, SpE.start hpe.1, hpe.2⟩) ?_ ?_
     ·rintro pre x ⟨Bn, cn, ms, ds, Br, cr, rest⟩ l M0 W0 hlen hI
      obtain ⟨hx, hE, hr2⟩ := hI
      refine tB ?_
      refine tS ?_
      have hpv : (pol (os.getD i.toNat rowD).xs : Po (El p m mod)) = (bs.getD i.toNat 0) := by rw [hvx, pol_il]
      have hrl := il_length rest
      have hEl := hE.le hg0
      have hx1 := il_length (pol (os.getD i.toNat rowD).xs - pol [x] : Po (El p m mod))
      have hx2 := Po.len_sub (pol (os.getD i.toNat rowD).xs) (pol [x] : Po (El p m mod))
      have hx3 := Po.len_le (pol_sh (p := p) (m := m) (mod := mod) (os.getD i.toNat rowD).xs)
      have hx4 := Po.len_le (pol_sh (p := p) (m := m) (mod := mod) [x])
      have hx5 : [x].length = 1 := rfl
      refine tr_draw [0, 1, 2, 3, 4, 5, 6, 7, 8] [] mixed (by kernel_rfl) fun _ _ _ => ?_
      refine sV (rLd0 rfl rfl) ?_
      refine sV (rLd0 rfl rfl) ?_
      refine sV (rLd0 rfl rfl) ?_
      refine sV (rLd0 rfl rfl) ?_
      refine pV ?_
      refine eV (eLit1I rfl rfl rfl rfl (fun A15 => ?_))
      refine eV (eCall1 rfl rfl rfl (poly_Sub g hg (os.getD i.toNat rowD).A _ (os.getD i.toNat rowD).cap (os.getD i.toNat rowD).xs rfl (by omega) A15 1 1 [x] rfl (by simp)) ⟨rfl, rfl, rfl, trivial⟩ ?_)
      rintro _ _ ⟨Bs, cs_, rfl, rfl⟩
      refine eV (eCall1 rfl rfl rfl (poly_Gcd g hg Br _ cr (il rest) rfl (by omega) Bs _ cs_ (il (pol (os.getD i.toNat rowD).xs - pol [x])) rfl (by omega) (.inl (by rw [pol_il]; exact hE.ne))) ⟨rfl, rfl, rfl, trivial⟩ ?_)
      rintro _ _ ⟨Bd, cd, rfl, rfl⟩
      refine pV ?_
      rw [pol_il, pol_il, hpv, pol_one_c]
      have hdl := il_length (Po.gcd rest ((bs.getD i.toNat 0) - Po.C (el x)))
      have hdl2 := hE.gcd_le ((bs.getD i.toNat 0) - Po.C (el x))
      refine tS ?_
      refine tS ?_
      refine tR fun _ _ _ => ?_
      refine pV ?_
      refine sV (rLen rfl rfl) ?_
      refine pV ?_
      refine tC rfl (fun h16 => ?_) (fun h16 => ?_)
      ·try simp only [zbA] at h16
       refine tS ?_
       have hms := xss_len hx
       rw [List.length_append] at hms
       have hPl := hP.le hS.pts hf0
       have hyes := hE.yes (hs.of_dvd hpd) x (by omega)
       refine tR fun _ _ _ => ?_
       refine sV (rLd0 rfl rfl) ?_
       refine pV ?_
       refine eV (eLit1 rfl rfl rfl rfl rfl (fun A17 => ?_))
       refine eV (eAppR rfl rfl rfl rfl rfl (by first | rfl | simp | omega) (by omega) (fun A17a c17a => ?_))
       refine eV (eSt0 rfl rfl rfl rfl rfl rfl ?_)
       refine tR fun _ _ _ => ?_
       refine sV (rLd0 rfl rfl) ?_
       refine sV (rLd0 rfl rfl) ?_
       refine pV ?_
       refine eV (eCall1 rfl rfl rfl (fac_quo g hg Br _ cr (il rest) rfl (by omega) Bd _ cd (il (Po.gcd rest ((bs.getD i.toNat 0) - Po.C (el x)))) rfl (by omega) (by rw [pol_il]; exact hE.ne2 _)) ⟨rfl, rfl, rfl, trivial⟩ ?_)
       rintro _ _ ⟨Bq, cq, rfl, rfl⟩
       refine eV (eSt0 rfl rfl rfl rfl rfl rfl ?_)
       rw [pol_il, pol_il]
       have hql := il_length (Po.quo rest (Po.gcd rest ((bs.getD i.toNat 0) - Po.C (el x))))
       refine tr_chunks [blk p12 22 [.slice Bq (il (Po.quo rest (Po.gcd rest ((bs.getD i.toNat 0) - Po.C (el x))))).length cq], ro Bq (ints (il (Po.quo rest (Po.gcd rest ((bs.getD i.toNat 0) - Po.C (el x)))))), blk p8 54 [.slice A17a (ms ++ [(⟨Bd, cd, il (Po.gcd rest ((bs.getD i.toNat 0) - Po.C (el x)))⟩ : RowM)]).length c17a], ow A17a 22 c17a (hdrs (ms ++ [(⟨Bd, cd, il (Po.gcd rest ((bs.getD i.toNat 0) - Po.C (el x)))⟩ : RowM)])), rowsCh 3 (ms ++ [(⟨Bd, cd, il (Po.gcd rest ((bs.getD i.toNat 0) - Po.C (el x)))⟩ : RowM)]), rowsR rs, ow Bp 22 cp (hdrs rs), blk B13 25 [.pointer (some g.p)], blk p5 22 [.slice (os.getD i.toNat rowD).A (os.getD i.toNat rowD).xs.length (os.getD i.toNat rowD).cap], ow B1 22 cap1 (hdrs os), rowsCh 3 os, blk p0 25 [.pointer (some g.p)], gfR g, ro A (ints (il f))] ((cs _ [rowsCh 3 ms, ow Bd 3 cd (ints (il (Po.gcd rest ((bs.getD i.toNat 0) - Po.C (el x))))), ow Bq 3 cq (ints (il (Po.quo rest (Po.gcd rest ((bs.getD i.toNat 0) - Po.C (el x)))))), blk p12 22 [.slice Bq (il (Po.quo rest (Po.gcd rest ((bs.getD i.toNat 0) - Po.C (el x))))).length cq], blk p8 54 [.slice A17a (ms ++ [(⟨Bd, cd, il (Po.gcd rest ((bs.getD i.toNat 0) - Po.C (el x)))⟩ : RowM)]).length c17a], ow A17a 22 c17a (hdrs (ms ++ [(⟨Bd, cd, il (Po.gcd rest ((bs.getD i.toNat 0) - Po.C (el x)))⟩ : RowM)])), rowsR rs, ow Bp 22 cp (hdrs rs), blk B13 25 [.pointer (some g.p)], blk p5 22 [.slice (os.getD i.toNat rowD).A (os.getD i.toNat rowD).xs.length (os.getD i.toNat rowD).cap], ow B1 22 cap1 (hdrs os), rowsCh 3 os, blk p0 25 [.pointer (some g.p)], gfR g, ro A (ints (il f))]).trans ((rows_snoc (r := ⟨Bd, cd, il (Po.gcd rest ((bs.getD i.toNat 0) - Po.C (el x)))⟩) _).trans ((CSub.cons _ (ow_ro _)).trans (cs _ _)))) ?_
       refine tS ?_
       refine tR fun _ _ _ => ?_
       refine sV (rLd0 rfl rfl) ?_
       refine sV (rLen rfl rfl) ?_
       refine pV ?_
       refine tC rfl (fun h19 => ?_) (fun h19 => ?_)
       ·try simp only [zbA] at h19
        refine tE ?_
        intro hpre
        refine tR fun _ _ _ => ?_
        refine sV (rAdd rfl rfl rfl (by omega) (by omega)) ?_
        refine pV ?_
        refine ⟨k + 1, A17a, c17a, ms ++ [⟨Bd, cd, il (Po.gcd rest ((bs.getD i.toNat 0) - Po.C (el x)))⟩], nps ++ (ds ++ [(Po.gcd rest ((bs.getD i.toNat 0) - Po.C (el x)))]), ⟨rfl, rfl, rfl, rfl, rfl, rfl, rfl, rfl, rfl, rfl, rfl, rfl, rfl, rfl, rfl, rfl, trivial⟩, by first | exact cs _ _ | exact CSub.refl _, ?_⟩
        refine ⟨⟨⟨by omega, by omega⟩, by rw [← List.append_assoc]; exact xss_add hx _ _ _, ?_⟩, by omega⟩
        rw [show (k + 1).toNat = k.toNat + 1 by omega]
        exact hP.next (by omega) hyes.each (hyes.end1 (by omega))
       ·try simp only [zbA] at h19
        refine tK ?_
        refine ⟨(A17a, c17a, ms ++ [⟨Bd, cd, il (Po.gcd rest ((bs.getD i.toNat 0) - Po.C (el x)))⟩], ds ++ [(Po.gcd rest ((bs.getD i.toNat 0) - Po.C (el x)))], Bq, cq, Po.quo rest (Po.gcd rest ((bs.getD i.toNat 0) - Po.C (el x)))), by first | exact cs _ _ | exact CSub.refl _, ?_⟩
        exact ⟨by rw [← List.append_assoc]; exact xss_add hx _ _ _, hyes, by omega⟩
      ·try simp only [zbA] at h16
       refine tK ?_
       refine tS ?_
       refine tR fun _ _ _ => ?_
       refine sV (rLd0 rfl rfl) ?_
       refine sV (rLen rfl rfl) ?_
       refine pV ?_
       refine tC rfl (fun h19 => ?_) (fun h19 => ?_)
       ·try simp only [zbA] at h19
        refine tE ?_
        intro hpre
        refine tR fun _ _ _ => ?_
        refine sV (rAdd rfl rfl rfl (by omega) (by omega)) ?_
        refine pV ?_
        refine ⟨k + 1, Bn, cn, ms, nps ++ ds, ⟨rfl, rfl, rfl, rfl, rfl, rfl, rfl, rfl, rfl, rfl, rfl, rfl, rfl, rfl, rfl, rfl, trivial⟩, by first | exact cs _ _ | exact CSub.refl _, ?_⟩
        omega
       ·try simp only [zbA] at h19
        refine tK ?_
        refine ⟨(Bn, cn, ms, ds, Br, cr, rest), by first | exact cs _ _ | exact CSub.refl _, ?_⟩
        exact ⟨hx, hE.no' x (by omega), hr2⟩
     ·rintro ⟨Bn, cn, ms, ds, Br, cr, rest⟩ hI
      obtain ⟨hx, hE, hr2⟩ := hI
      refine tR fun _ _ _ => ?_
      refine sV (rAdd rfl rfl rfl (by omega) (by omega)) ?_
      refine pV ?_
      refine ⟨k + 1, Bn, cn, ms, nps ++ ds, ⟨rfl, rfl, rfl, rfl, rfl, rfl, rfl, rfl, rfl, rfl, rfl, rfl, rfl, rfl, rfl, rfl, trivial⟩, by first | exact cs _ _ | exact CSub.refl _, ?_⟩
      refine ⟨⟨⟨by omega, by omega⟩, hx, ?_⟩, by omega⟩
      rw [show (k + 1).toNat = k.toNat + 1 by omega]
      exact hP.next (by omega) hE.each (hE.end2 hvm.2 hpd (all_el hgq))
    ·try simp only [zbA] at h10
     refine tE ?_
     refine tR fun _ _ _ => ?_
     refine sV (rLd0 rfl rfl) ?_
     refine pV ?_
     refine tR fun _ _ _ => ?_
     refine sV (rAdd rfl rfl rfl (by omega) (by omega)) ?_
     refine pV ?_
     refine ⟨i + 1, Bn, cn, ns, ns, nps, ⟨rfl, rfl, rfl, rfl, rfl, rfl, rfl, trivial⟩, by first | exact cs _ _ | exact CSub.refl _, ?_⟩
     refine ⟨⟨⟨by omega, by omega⟩, .inl rfl, hxn, ?_⟩, by omega⟩
     rw [show (i + 1).toNat = i.toNat + 1 by omega]
     exact hS.next (by omega) (by rw [show ps.length = k.toNat by omega]; exact hP)
 ·try simp only [zbA] at h4
  refine tE ?_
  refine tS ?_
  refine tR fun _ _ _ => ?_
  iterate 2 refine pV ?_
  have hIr := hS.done hl hs hB (by omega)
  exact tr_ret ⟨trivial, _, _, rfl, ⟨_, _, rfl, Bp, cp, rs, qs, ps, rfl, rfl, rfl, hal, hxs, hIr, hS.pts.prod, by omega⟩, cs _ _, trivial, trivial, trivial⟩
end Go.Proofs.YtbhoeaijpnjgdaaGreat

namespace Go.Proofs.YtbhoeaijpnjgdaaGreat
open Go.RowKit
theorem cmpN_lt (a b : List Int) : ∀ n, cmpN a b n < 0 ↔ ∃ i, i < n ∧ a.getD i 0 < b.getD i 0 ∧ ∀ k, i < k → k < n → a.getD k 0 = b.getD k 0
 | 0 => ⟨fun h => by simp [cmpN] at h, fun ⟨i, h, _⟩ => by omega⟩
 | n + 1 => by
  have ih := cmpN_lt a b n
  simp only [cmpN]
  split
  ·rename_i h
   exact ⟨fun _ => ⟨n, by omega, h, fun k h1 h2 => by omega⟩, fun _ => by omega⟩
  ·rename_i h
   split
   ·rename_i h2
    refine ⟨fun h => by omega, fun ⟨i, h3, h4, h5⟩ => ?_⟩
    rcases Nat.lt_or_ge i n with e | e
    ·have := h5 n e (by omega)
     omega
    ·have : i = n := by omega
     subst this; omega
   ·rename_i h2
    rw [ih]
    constructor
    ·rintro ⟨i, h3, h4, h5⟩
     refine ⟨i, by omega, h4, fun k h6 h7 => ?_⟩
     rcases Nat.lt_or_ge k n with e | e
     ·exact h5 k h6 e
     ·have : k = n := by omega
      subst this; omega
    ·rintro ⟨i, h3, h4, h5⟩
     rcases Nat.lt_or_ge i n with e | e
     ·exact ⟨i, e, h4, fun k h6 h7 => h5 k h6 (by omega)⟩
     ·have : i = n := by omega
      subst this; omega
theorem cmpN_eq (a b : List Int) : ∀ n, cmpN a b n = 0 ↔ ∀ i, i < n → a.getD i 0 = b.getD i 0
 | 0 => ⟨fun _ i h => by omega, fun _ => rfl⟩
 | n + 1 => by
  have ih := cmpN_eq a b n
  simp only [cmpN]
  split
  ·rename_i h
   exact ⟨fun e => by omega, fun e => by have := e n (by omega); omega⟩
  ·split
   ·rename_i h
    exact ⟨fun e => by omega, fun e => by have := e n (by omega); omega⟩
   ·rw [ih]
    refine ⟨fun e i hi => ?_, fun e i hi => e i (by omega)⟩
    rcases Nat.lt_or_ge i n with h | h
    ·exact e i h
    ·have : i = n := by omega
     subst this; omega
theorem cmpL_eq (a b : List Int) : cmpL a b = 0 ↔ a = b := by
 constructor
 ·intro h
  unfold cmpL at h
  split at h
  ·omega
  ·split at h
   ·omega
   ·exact ext_getD (by omega) fun j => by
     have := (cmpN_eq a b a.length).1 h
     rcases Nat.lt_or_ge j a.length with e | e
     ·exact this j e
     ·rw [getD_out e, getD_out (by omega)]
 ·rintro rfl
  unfold cmpL
  rw [if_neg (by omega), if_neg (by omega)]
  exact (cmpN_eq a a a.length).2 fun i _ => rfl
theorem cmpL_lt (a b : List Int) : cmpL a b < 0 ↔ a.length < b.length ∨ (a.length = b.length ∧ ∃ i, i < a.length ∧ a.getD i 0 < b.getD i 0 ∧ ∀ k, i < k → k < a.length → a.getD k 0 = b.getD k 0) := by
 unfold cmpL
 split
 ·rename_i h; exact ⟨fun _ => .inl h, fun _ => by omega⟩
 ·split
  ·rename_i h; exact ⟨fun h => by omega, fun h => by omega⟩
  ·rename_i h1 h2
   rw [cmpN_lt]
   exact ⟨fun h => .inr ⟨by omega, h⟩, fun h => h.elim (fun h => absurd h h1) (fun h => h.2)⟩
theorem cmpL_trans {a b c : List Int} (h : cmpL a b < 0) (k : cmpL b c < 0) : cmpL a c < 0 := by
 rw [cmpL_lt] at *
 rcases h with h | ⟨h, i, h1, h2, h3⟩
 ·rcases k with k | ⟨k, _⟩
  ·exact .inl (by omega)
  ·exact .inl (by omega)
 ·rcases k with k | ⟨k, j, k1, k2, k3⟩
  ·exact .inl (by omega)
  ·refine .inr ⟨by omega, ?_⟩
   rcases Nat.lt_trichotomy i j with e | e | e
   ·exact ⟨j, by omega, by rw [h3 j e (by omega)]; exact k2, fun t t1 t2 => by rw [h3 t (by omega) t2]; exact k3 t t1 (by omega)⟩
   ·subst e
    exact ⟨i, h1, by omega, fun t t1 t2 => by rw [h3 t t1 t2]; exact k3 t t1 (by omega)⟩
   ·exact ⟨i, h1, by rw [← k3 i e (by omega)]; exact h2, fun t t1 t2 => by rw [h3 t t1 t2]; exact k3 t (by omega) (by omega)⟩
theorem cmpL_irr (a : List Int) : ¬ cmpL a a < 0 := by rw [(cmpL_eq a a).2 rfl]; omega
theorem cmpL_not {a b : List Int} : ¬ cmpL a b < 0 ↔ a = b ∨ cmpL b a < 0 := by
 have h1 := cmpL_neg a b
 have h2 := cmpL_eq a b
 constructor
 ·intro h
  by_cases e : cmpL a b = 0
  ·exact .inl (h2.1 e)
  ·exact .inr (by omega)
 ·rintro (rfl | h)
  ·exact cmpL_irr a
  ·omega
theorem cmpL_ntr {a b c : List Int} (h : ¬ cmpL a b < 0) (k : ¬ cmpL b c < 0) : ¬ cmpL a c < 0 := by
 rw [cmpL_not] at *
 rcases h with rfl | h
 ·exact k
 ·rcases k with rfl | k
  ·exact .inr h
  ·exact .inr (cmpL_trans k h)
theorem rise_eq {α : Type} {lt : α → α → Prop} (hirr : ∀ a, ¬ lt a a) (htr : ∀ a b c, lt a b → lt b c → lt a c) : ∀ {l k : List α}, l.Pairwise lt → k.Pairwise lt → (∀ x, x ∈ l ↔ x ∈ k) → l = k
 | [], [], _, _, _ => rfl
 | [], b :: k, _, _, h => absurd ((h b).2 (List.mem_cons_self ..)) (by simp)
 | a :: l, [], _, _, h => absurd ((h a).1 (List.mem_cons_self ..)) (by simp)
 | a :: l, b :: k, hl, hk, h => by
  have h1 := List.pairwise_cons.1 hl
  have h2 := List.pairwise_cons.1 hk
  have hab : a = b := by
   rcases List.mem_cons.1 ((h a).1 (List.mem_cons_self ..)) with e | e
   ·exact e
   ·rcases List.mem_cons.1 ((h b).2 (List.mem_cons_self ..)) with e2 | e2
    ·exact e2.symm
    ·exact absurd (htr _ _ _ (h2.1 a e) (h1.1 b e2)) (hirr b)
  subst hab
  have := rise_eq hirr htr h1.2 h2.2 fun x => by
   constructor
   ·intro hx
    rcases List.mem_cons.1 ((h x).1 (List.mem_cons_of_mem _ hx)) with e | e
    ·subst e; exact absurd (h1.1 x hx) (hirr x)
    ·exact e
   ·intro hx
    rcases List.mem_cons.1 ((h x).2 (List.mem_cons_of_mem _ hx)) with e | e
    ·subst e; exact absurd (h2.1 x hx) (hirr x)
    ·exact e
  rw [this]
def fpr (gs : List FacM) : List (List Int × Int) := gs.map fun e => (e.r.xs, e.k)
@[simp] theorem fpr_length (gs : List FacM) : (fpr gs).length = gs.length := by simp [fpr]
theorem fpr_app (gs hs : List FacM) : fpr (gs ++ hs) = fpr gs ++ fpr hs := by simp [fpr]
section
variable {p m : Int} {mod : List Int} [hF : IsF p m mod]
open Po
structure CmI (f : Po (El p m mod)) (gs : List FacM) : Prop where
 each : ∀ e ∈ gs, ∃ P : Po (El p m mod), e.r.xs = il P ∧ Ir P ∧ lead P = 1 ∧ P ∣ f ∧ e.k = ((mu P f : Nat) : Int)
 all : ∀ P : Po (El p m mod), Ir P → lead P = 1 → P ∣ f → ∃ e ∈ gs, e.r.xs = il P
 nd : (gs.map fun e => e.r.xs).Nodup
def RisF (gs : List FacM) : Prop := gs.Pairwise fun x y => cmpL x.r.xs y.r.xs < 0
theorem CmI.perm {f : Po (El p m mod)} {gs hs : List FacM} (h : CmI f gs) (hp : hs.Perm gs) : CmI f hs :=
 ⟨fun e he => h.each e (hp.mem_iff.1 he), fun P a b c => by
  obtain ⟨e, he, hx⟩ := h.all P a b c
  exact ⟨e, hp.mem_iff.2 he, hx⟩, (hp.map fun e => e.r.xs).nodup_iff.2 h.nd⟩
theorem CmI.rise {f : Po (El p m mod)} {gs : List FacM} (h : CmI f gs) (hs : gs.Pairwise fun x y => ¬ cmpL y.r.xs x.r.xs < 0) : RisF gs := by
 have h1 := List.pairwise_map.1 h.nd
 refine (hs.and h1).imp fun {x y} h => ?_
 rcases cmpL_not.1 h.1 with e | e
 ·exact absurd e.symm h.2
 ·exact e
theorem CmI.fc {f : Po (El p m mod)} {gs : List FacM} (h : CmI f gs) (hf : f ≠ 0) {e : FacM} (he : e ∈ gs) : Ir (fcP p m mod e) ∧ lead (fcP p m mod e) = 1 ∧ fcP p m mod e ∣ f ∧ e.r.xs = il (fcP p m mod e) ∧ e.k = ((mu (fcP p m mod e) f : Nat) : Int) ∧ 1 ≤ e.k := by
 obtain ⟨P, h1, h2, h3, h4, h5⟩ := h.each e he
 have eP : fcP p m mod e = P := by unfold fcP; rw [h1, pol_il]
 rw [eP]
 have := (mu_pos h2 hf).1 h4
 exact ⟨h2, h3, h4, h1, h5, by omega⟩
theorem CmI.uniq {f : Po (El p m mod)} (hf : f ≠ 0) {gs hs : List FacM} (h : CmI f gs) (k : CmI f hs) (hg : RisF gs) (hh : RisF hs) : fpr gs = fpr hs := by
 have hmem : ∀ {gs hs : List FacM}, CmI f gs → CmI f hs → ∀ x, x ∈ fpr gs → x ∈ fpr hs := fun {gs hs} h k x hx => by
  obtain ⟨e, he, rfl⟩ := List.mem_map.1 hx
  obtain ⟨h1, h2, h3, h4, h5, _⟩ := h.fc hf he
  obtain ⟨e', he', hx'⟩ := k.all _ h1 h2 h3
  obtain ⟨_, _, _, k4, k5, _⟩ := k.fc hf he'
  have : fcP p m mod e' = fcP p m mod e := by unfold fcP; rw [hx', pol_il]; rfl
  refine List.mem_map.2 ⟨e', he', ?_⟩
  rw [hx', h4, k5, h5, this]
 exact rise_eq (lt := fun (x y : List Int × Int) => cmpL x.1 y.1 < 0) (fun a => cmpL_irr _) (fun a b c => cmpL_trans) (List.pairwise_map.2 hg) (List.pairwise_map.2 hh) fun x => ⟨hmem h k x, hmem k h x⟩
structure CmJ (f : Po (El p m mod)) (fs : List FacM) (j : Nat) (Ls : List (Po (El p m mod) × Int)) : Prop where
 each : ∀ x ∈ Ls, Ir x.1 ∧ lead x.1 = 1 ∧ x.1 ∣ f ∧ x.2 = ((mu x.1 f : Nat) : Int) ∧ ∃ e ∈ fs.take j, e.k = x.2
 all : ∀ e ∈ fs.take j, ∀ P : Po (El p m mod), Ir P → lead P = 1 → mu P f = e.k.toNat → ∃ x ∈ Ls, x.1 = P
 nd : (Ls.map (·.1)).Nodup
variable {f : Po (El p m mod)} {fs : List FacM} {j : Nat} {Ls : List (Po (El p m mod) × Int)}
theorem CmJ.start : CmJ f fs 0 [] := ⟨fun x h => by simp at h, fun e h => by simp at h, .nil⟩
theorem CmJ.next (h : CmJ f fs j Ls) (hf : f ≠ 0) (hq : SqI f 1 (fun _ => True) fs) (hj : j < fs.length) {ps : List (Po (El p m mod))} (hI : IrL (fcP p m mod (fs.getD j facD)) ps) : CmJ f fs (j + 1) (Ls ++ ps.map fun P => (P, (fs.getD j facD).k)) := by
 have hm := getD_mem hj facD
 obtain ⟨_, h0, _, h1, _, h2, _⟩ := hq.fc _ hm
 have htk : fs.take (j + 1) = fs.take j ++ [fs.getD j facD] := take_getD hj facD
 have hne : ∀ e ∈ fs.take j, e.k ≠ (fs.getD j facD).k := fun e he hk => by
  have h3 := hq.nd
  rw [← List.take_append_drop (j + 1) fs, htk, List.map_append, List.map_append] at h3
  have h4 := (List.nodup_append.1 h3).1
  exact (List.nodup_append.1 h4).2.2 _ (List.mem_map.2 ⟨e, he, rfl⟩) _ (by simp) hk
 have hps : ∀ P ∈ ps, Ir P ∧ lead P = 1 ∧ P ∣ f ∧ mu P f = (fs.getD j facD).k.toNat := fun P hP => by
  obtain ⟨a, b, c⟩ := (hI.mem P).1 hP
  have := (h2 P a b).1 c
  exact ⟨a, b, (mu_pos a hf).2 (by omega), this⟩
 refine ⟨fun x hx => ?_, fun e he P a b c => ?_, ?_⟩
 ·rcases List.mem_append.1 hx with hx | hx
  ·obtain ⟨a, b, c, d, e, he, hk⟩ := h.each x hx
   exact ⟨a, b, c, d, e, by rw [htk]; exact List.mem_append_left _ he, hk⟩
  ·obtain ⟨P, hP, rfl⟩ := List.mem_map.1 hx
   obtain ⟨a, b, c, d⟩ := hps P hP
   exact ⟨a, b, c, by show (fs.getD j facD).k = _; rw [d]; omega, _, by rw [htk]; exact List.mem_append_right _ (List.mem_singleton.2 rfl), rfl⟩
 ·rw [htk] at he
  rcases List.mem_append.1 he with he | he
  ·obtain ⟨x, hx, e⟩ := h.all e he P a b c
   exact ⟨x, List.mem_append_left _ hx, e⟩
  ·rw [List.mem_singleton] at he
   subst he
   exact ⟨(P, _), List.mem_append_right _ (List.mem_map.2 ⟨P, (hI.mem P).2 ⟨a, b, (h2 P a b).2 c⟩, rfl⟩), rfl⟩
 ·rw [List.map_append, List.nodup_append]
  refine ⟨h.nd, ?_, fun P hP Q hQ e => ?_⟩
  ·rw [List.map_map]
   have : (ps.map ((fun x : Po (El p m mod) × Int => x.1) ∘ fun P => (P, (fs.getD j facD).k))) = ps := by
    conv => rhs; rw [← List.map_id ps]
    rfl
   rw [this]; exact hI.nd
  ·obtain ⟨x, hx, rfl⟩ := List.mem_map.1 hP
   rw [List.map_map] at hQ
   obtain ⟨R, hR, rfl⟩ := List.mem_map.1 hQ
   obtain ⟨_, _, _, d, e', he', hk⟩ := h.each x hx
   have d2 := (hps R hR).2.2.2
   have e3 : x.1 = R := e
   rw [← e3] at d2
   refine hne e' he' ?_
   rw [hk, d, d2]
   omega
theorem CmJ.done (h : CmJ f fs fs.length Ls) (hf : f ≠ 0) (hq : SqI f 1 (fun _ => True) fs) {gs : List FacM} (hg : fpr gs = Ls.map fun x => (il x.1, x.2)) : CmI f gs := by
 have hmem : ∀ e ∈ gs, ∃ x ∈ Ls, e.r.xs = il x.1 ∧ e.k = x.2 := fun e he => by
  have : (e.r.xs, e.k) ∈ fpr gs := List.mem_map.2 ⟨e, he, rfl⟩
  rw [hg] at this
  obtain ⟨x, hx, hxe⟩ := List.mem_map.1 this
  simp only [Prod.mk.injEq] at hxe
  exact ⟨x, hx, hxe.1.symm, hxe.2.symm⟩
 refine ⟨fun e he => ?_, fun P a b c => ?_, ?_⟩
 ·obtain ⟨x, hx, h1, h2⟩ := hmem e he
  obtain ⟨a, b, c, d, _⟩ := h.each x hx
  exact ⟨x.1, h1, a, b, c, by rw [h2, d]⟩
 ·have h1 := (mu_pos a hf).1 c
  obtain ⟨e, he, hk⟩ := hq.all P a b h1 trivial
  obtain ⟨x, hx, hxP⟩ := h.all e (by rw [List.take_length]; exact he) P a b (by rw [hk]; omega)
  have : (il x.1, x.2) ∈ fpr gs := by rw [hg]; exact List.mem_map.2 ⟨x, hx, rfl⟩
  obtain ⟨g, hgm, hge⟩ := List.mem_map.1 this
  simp only [Prod.mk.injEq] at hge
  exact ⟨g, hgm, by rw [hge.1, hxP]⟩
 ·have e1 : (gs.map fun e => e.r.xs) = (Ls.map (·.1)).map fun P => il P := by
   have := congrArg (fun l => l.map Prod.fst) hg
   simp only [fpr, List.map_map] at this
   rw [List.map_map]; exact this
  rw [e1]
  exact List.pairwise_map.2 (h.nd.imp fun hab e => hab (il_inj e))
theorem prF_C (l : Int) (gs : List FacM) : ∀ n, prF p m mod l gs n = C (el l) * prF p m mod 1 gs n
 | 0 => by
  have e1 : prF p m mod 1 gs 0 = C (el 1) := rfl
  have e : prF p m mod l gs 0 = C (el l) := rfl
  rw [e, e1, el_one, C_one, Rg.mul_one]
 | n + 1 => by
  have e : ∀ l, prF p m mod l gs (n + 1) = prF p m mod l gs n * Rg.pow (fcP p m mod (gs.getD n facD)) (gs.getD n facD).k.toNat := fun _ => rfl
  rw [e, e, prF_C l gs n, Rg.mul_assoc]
open Classical in
theorem mu_ir {P Q : Po (El p m mod)} (hP : Ir P) (hQ : Ir Q) (h1 : lead P = 1) (h2 : lead Q = 1) : mu P Q = if P = Q then 1 else 0 := by
 by_cases e : P = Q
 ·subst e
  rw [if_pos rfl]
  refine mu_eq hP hP.ne (by rw [Rg.pow_one]; exact ⟨1, (Rg.mul_one _).symm⟩) fun hd => ?_
  have h3 := dvd_len hd hP.ne
  rw [len_powN hP.ne] at h3
  have := hP.two
  omega
 ·rw [if_neg e]
  refine mu_eq hP hQ.ne (one_dvd _) fun hd => e ?_
  rw [Nat.zero_add, Rg.pow_one] at hd
  exact hP.one hQ h1 h2 hd
theorem prF_mu3 {gs : List FacM} (h : ∀ e ∈ gs, lead (fcP p m mod e) = 1 ∧ 0 ≤ e.k ∧ Ir (fcP p m mod e) ∧ e.r.xs = il (fcP p m mod e)) (hnd : (gs.map fun e => e.r.xs).Nodup) {P : Po (El p m mod)} (hP : Ir P) (hl : lead P = 1) : ∀ n, n ≤ gs.length →
  (∀ j, j < n → (gs.getD j facD).r.xs = il P → mu P (prF p m mod 1 gs n) = (gs.getD j facD).k.toNat) ∧ ((∀ j, j < n → (gs.getD j facD).r.xs ≠ il P) → mu P (prF p m mod 1 gs n) = 0)
 | 0, _ => by
  have e : prF p m mod 1 gs 0 = (1 : Po (El p m mod)) := by show C (el 1) = 1; rw [el_one]; rfl
  exact ⟨fun j hj => by omega, fun _ => by rw [e, mu_one hP]⟩
 | n + 1, hn => by
  obtain ⟨ih1, ih2⟩ := prF_mu3 h hnd hP hl n (by omega)
  have hm := getD_mem (l := gs) (show n < gs.length by omega) facD
  have h1 := lead1_ne (prF_mu (fun e he => ⟨(h e he).1, (h e he).2.1⟩) n (by omega)).1
  obtain ⟨a, b, c, d⟩ := h _ hm
  have e : prF p m mod 1 gs (n + 1) = prF p m mod 1 gs n * Rg.pow (fcP p m mod (gs.getD n facD)) (gs.getD n facD).k.toNat := rfl
  have hdif : ∀ j, j < n → (gs.getD j facD).r.xs = il P → (gs.getD n facD).r.xs ≠ il P := fun j hj e1 e2 => by
   have h5 := List.pairwise_iff_getElem.1 hnd j n (by simp; omega) (by simp; omega) hj
   rw [List.getElem_map, List.getElem_map] at h5
   refine h5 ?_
   rw [List.getD_eq_getElem?_getD, List.getElem?_eq_getElem (show j < gs.length by omega)] at e1
   rw [List.getD_eq_getElem?_getD, List.getElem?_eq_getElem (show n < gs.length by omega)] at e2
   exact e1.trans e2.symm
  rw [e, mu_mul hP h1 (pow_ne0 c.ne _), mu_pow hP c.ne, mu_ir hP c hl a]
  have hiff : P = fcP p m mod (gs.getD n facD) ↔ (gs.getD n facD).r.xs = il P := ⟨fun e => by rw [d, ← e], fun e => by
   rw [d] at e; exact (il_inj e).symm⟩
  refine ⟨fun j hj hx => ?_, fun hno => ?_⟩
  ·rcases Nat.lt_or_ge j n with e1 | e1
   ·rw [ih1 j e1 hx, if_neg (fun e2 => hdif j e1 hx (hiff.1 e2)), Nat.mul_zero, Nat.add_zero]
   ·have : j = n := by omega
    subst this
    rw [ih2 fun i hi hxi => hdif i hi hxi hx, if_pos (hiff.2 hx), Nat.mul_one, Nat.zero_add]
  ·rw [ih2 fun i hi => hno i (by omega), if_neg (fun e2 => hno n (by omega) (hiff.1 e2)), Nat.mul_zero]
theorem CmI.prod {gs : List FacM} (h : CmI f gs) (hf : lead f = 1) : prF p m mod 1 gs gs.length = f ∧ fcT p m mod gs gs.length = (len f : Int) - 1 := by
 have hf0 := lead1_ne hf
 have hfc : ∀ e ∈ gs, lead (fcP p m mod e) = 1 ∧ 0 ≤ e.k := fun e he => by
  obtain ⟨_, b, _, _, _, d⟩ := h.fc hf0 he
  exact ⟨b, by omega⟩
 have h1 := prF_mu hfc gs.length (Nat.le_refl _)
 have e : prF p m mod 1 gs gs.length = f := eq_mu1 _ _ _ (Nat.le_refl _) h1.1 hf fun P hP hPl => by
  obtain ⟨h2, h3⟩ := prF_mu3 (fun e he => by
   obtain ⟨a, b, c, d, k, t⟩ := h.fc hf0 he
   exact ⟨b, by omega, a, d⟩) h.nd hP hPl gs.length (Nat.le_refl _)
  by_cases hd : P ∣ f
  ·obtain ⟨e, he, hx⟩ := h.all P hP hPl hd
   obtain ⟨j, hj, rfl⟩ := List.getElem_of_mem he
   have hg : gs.getD j facD = gs[j] := by rw [List.getD_eq_getElem?_getD, List.getElem?_eq_getElem hj]; rfl
   obtain ⟨_, _, _, d, k, _⟩ := h.fc hf0 (List.getElem_mem hj)
   rw [h2 j hj (by rw [hg]; exact hx), hg, k]
   have : fcP p m mod gs[j] = P := by unfold fcP; rw [hx, pol_il]
   rw [this]; omega
  ·have hz : mu P f = 0 := by
    have := mu_pos hP hf0
    have h5 : ¬ 1 ≤ mu P f := fun h => hd (this.2 h)
    omega
   rw [hz]
   refine h3 fun j hj hx => hd ?_
   obtain ⟨_, _, c, d, _⟩ := h.fc hf0 (getD_mem hj facD)
   have : fcP p m mod (gs.getD j facD) = P := by unfold fcP; rw [hx, pol_il]
   rw [← this]; exact c
 refine ⟨e, ?_⟩
 rw [e] at h1
 omega
theorem CmI.le {gs : List FacM} (h : CmI f gs) (hf : f ≠ 0) : ∀ e ∈ gs, e.r.xs.length ≤ len f ∧ 2 ≤ e.r.xs.length ∧ 1 ≤ e.k ∧ e.k ≤ len f := fun e he => by
 obtain ⟨a, b, c, d, k, t⟩ := h.fc hf he
 have h1 := dvd_len c hf
 have h2 := a.two
 rw [d, il_length]
 refine ⟨h1, h2, t, ?_⟩
 have h3 := dvd_len (mu_spec a hf).1 hf
 rw [len_powN a.ne] at h3
 have h4 : mu (fcP p m mod e) f * 1 ≤ mu (fcP p m mod e) f * (len (fcP p m mod e) - 1) := Nat.mul_le_mul_left _ (by omega)
 omega
theorem fcT_ge {gs : List FacM} (h : ∀ e ∈ gs, 2 ≤ len (fcP p m mod e) ∧ 1 ≤ e.k) : ∀ n : Nat, n ≤ gs.length → (n : Int) ≤ fcT p m mod gs n
 | 0, _ => Int.le_refl _
 | n + 1, hn => by
  have ih := fcT_ge h n (by omega)
  obtain ⟨a, b⟩ := h _ (getD_mem (show n < gs.length by omega) facD)
  rw [fcT_succ (by omega)]
  have h1 : 1 ≤ fcD p m mod (gs.getD n facD) := by unfold fcD; omega
  have h2 : (1 : Int) * 1 ≤ fcD p m mod (gs.getD n facD) * (gs.getD n facD).k := Int.mul_le_mul h1 b (by omega) (by omega)
  omega
theorem CmI.cnt {gs : List FacM} (h : CmI f gs) (hf : lead f = 1) : gs.length + 1 ≤ len f := by
 have h1 := (h.prod hf).2
 have h2 := fcT_ge (fun e he => by
  obtain ⟨a, _, _, _, _, b⟩ := h.fc (lead1_ne hf) he
  exact ⟨a.two, b⟩) gs.length (Nat.le_refl _)
 omega
theorem canL_il (hq : pw p m = pw p m) (P : Po (El p m mod)) : canL (pw p m) (il P) = il P := by rw [← il_pol (mod := mod), pol_il]
end
end Go.Proofs.YtbhoeaijpnjgdaaGreat

set_option maxRecDepth 100000
set_option maxHeartbeats 1000000
namespace Go.Proofs.YtbhoeaijpnjgdaaGreat
open Go.RowKit
theorem Pure.sub {P : Program} {f : FuncId} {args : Array Value} {G G' : List Chunk} {R : Value → List Chunk → Prop} (h : Pure P f args G R) (hs : ∀ w, (∀ c ∈ G', c.sat w) → ∀ c ∈ G, c.sat w) : Pure P f args G' R := ⟨h.ent, fun w hg => h.run w (hs w hg)⟩
theorem fpr_add {p m : Int} {mod : List Int} [hF : IsF p m mod] {gs : List FacM} {Ls : List (Po (El p m mod) × Int)} (h : fpr gs = Ls.map fun x => (il x.1, x.2)) (B : Option Addr) (c : Nat) (P : Po (El p m mod)) (k : Int) : fpr (gs ++ [⟨⟨B, c, il P⟩, k⟩]) = (Ls ++ [(P, k)]).map fun x => (il x.1, x.2) := by
 rw [fpr_app, h, List.map_append]; rfl
theorem take_mapP {p m : Int} {mod : List Int} [hF : IsF p m mod] {ps : List (Po (El p m mod))} {k : Nat} (h : k < ps.length) (c : Int) : (ps.take (k + 1)).map (fun P => (P, c)) = (ps.take k).map (fun P => (P, c)) ++ [(ps.getD k 0, c)] := by
 rw [take_getD h 0, List.map_append]; rfl
theorem cmt_cmp_ent : Enters Tryz.prog 45 := enters_of Tryz.func45 (by kernel_rfl) (by kernel_rfl)
theorem cmt_cmp (g : GfM) (pg : Addr) (Ax : Option Addr) (nx cx : Nat) (kx : Int) (a : List Int) (hnx : nx = a.length) (ha : a.length ≤ 1000000) (Ay : Option Addr) (ny cy : Nat) (ky : Int) (b : List Int) (hny : ny = b.length) (hb : b.length ≤ 1000000) :
  Pure Tryz.prog 45 #[.agg #[.slice Ax nx cx, .int .i64 kx], .agg #[.slice Ay ny cy, .int .i64 ky], .pointer (some pg)] [ro (some pg) [.pointer (some g.p)], gfR g, ro Ax (ints a), ro Ay (ints b)] (isV (.int .i64 (cmpL (canL g.q a) (canL g.q b)))) := by
 refine pure_of (args := [.agg #[.slice Ax nx cx, .int .i64 kx], .agg #[.slice Ay ny cy, .int .i64 ky], .pointer (some pg)]) 12 Tryz.func45 rfl rfl rfl cmt_cmp_ent ⟨id, id, id, id, trivial⟩ (fun w0 => ?_)
 refine tS ?_
 refine tR fun _ _ _ => ?_
 refine eV (eBox rfl rfl rfl rfl rfl (fun p0 => ?_))
 refine eV (eBox rfl rfl rfl rfl rfl (fun p0a => ?_))
 refine pV ?_
 refine tS ?_
 refine tR fun _ _ _ => ?_
 refine sV (rLd0 rfl rfl) ?_
 refine sV (rFld rfl rfl) ?_
 refine sV (rLdF rfl rfl rfl) ?_
 refine sV (rFld rfl rfl) ?_
 refine sV (rLdF rfl rfl rfl) ?_
 refine eV (eCallV rfl rfl rfl (fac_Compare g Ax nx cx a hnx (by omega) Ay ny cy b hny (by omega)) ⟨rfl, rfl, rfl, trivial⟩ ?_)
 refine pV ?_
 exact tr_ret ⟨trivial, _, _, rfl, ⟨rfl, rfl⟩, CSub.nil _, trivial⟩
theorem fac_CompleteL_ent : Enters Tryz.prog 16 := enters_of Tryz.func16 (by kernel_rfl) (by kernel_rfl)
theorem fac_CompleteL (hlib : FacSort) (hnone : FacNone) (g : GfM) {p m : Int} {mod : List Int} [hF : IsF p m mod] (hg : GOk g p m mod) (A : Option Addr) (n c : Nat) (a : List Int) (hn : n = a.length) (ha9 : a.length ≤ 17592186044415) (he : facE (Po.len (pol a : Po (El p m mod))) = 0) :
  Pure Tryz.prog 16 #[.pointer (some g.p), .slice A n c] [gfR g, ro A (ints a)] (two (fun v ch ch2 => ∃ B cap gs, v = .tuple #[.int .i64 (Po.lead (pol a : Po (El p m mod))).1, .slice B gs.length cap, .int .i64 0] ∧ ch = ow2 B 43 cap (fcs gs) ∧ ch2 = rowsCh 3 (rws gs) ∧ CmI (Po.mon (pol a : Po (El p m mod))) gs ∧ RisF gs ∧ gs.length ≤ 257)) := by
 have hq2 := hF.q2
 have hgq := hg.eq
 have hil := il_length (pol a : Po (El p m mod))
 have hle := facE_ok he
 have h0 : (pol a : Po (El p m mod)) ≠ 0 := Po.len_pos_iff.1 (by omega)
 have hml := Po.mon_len (pol a : Po (El p m mod))
 have hm0 := Po.mon_ne h0
 have hmle := Po.mon_lead h0
 have hmil := il_length (Po.mon (pol a : Po (El p m mod)))
 refine pure_of (args := [.pointer (some g.p), .slice A n c]) 61 Tryz.func16 rfl rfl rfl fac_CompleteL_ent ⟨id, id, trivial⟩ (fun w0 => ?_)
 refine tS ?_
 refine tR fun _ _ _ => ?_
 refine eV (eBox rfl rfl rfl rfl rfl (fun p0 => ?_))
 iterate 3 refine pV ?_
 refine tS ?_
 refine tR fun _ _ _ => ?_
 refine sV (rLd0 rfl rfl) ?_
 refine pV ?_
 refine eV (eCall1 rfl rfl rfl (fac_enter g hg A n c a hn ha9 he) ⟨rfl, rfl, trivial⟩ ?_)
 rintro _ _ ⟨B1, c1, rfl, hc1, rfl⟩
 iterate 5 refine pV ?_
 refine tS ?_
 refine tS ?_
 refine tR fun _ _ _ => ?_
 iterate 2 refine pV ?_
 refine tC rfl (fun h2 => ?_) (fun h2 => ?_)
 ·try simp only [zbA] at h2
  first | exact absurd trivial h2 | exact absurd rfl h2 | omega | (exact absurd h2 (by simp)) --done
 ·try simp only [zbA] at h2
  refine tK ?_
  refine tS ?_
  refine tS ?_
  refine tr_draw [0, 1, 2, 6, 3, 4, 5] [] mixed (by kernel_rfl) fun _ _ _ => ?_
  refine sV (rLd0 rfl rfl) ?_
  refine sV (rLd0 rfl rfl) ?_
  iterate 2 refine pV ?_
  refine eV (eCall1 rfl rfl rfl (fac_monic g hg B1 _ c1 (il (pol a : Po (El p m mod))) rfl (by omega) (by rw [pol_il]; exact h0)) ⟨rfl, rfl, trivial⟩ ?_)
  rintro _ _ ⟨B4, c4, rfl, rfl⟩
  rw [pol_il]
  refine eV (eCall2 rfl rfl rfl (fac_sqf g hg B4 _ c4 (Po.mon (pol a : Po (El p m mod))) (by rw [il_length]) (Po.mon_lead h0) (by omega)) ⟨rfl, rfl, rfl, trivial⟩ ?_)
  rintro _ _ _ ⟨Bs, cs_, fs, rfl, rfl, rfl, hI0, hfl⟩
  refine sV (rLenS rfl rfl) ?_
  refine tB ?_
  refine tr_nilQ 43 3 ?_
  refine tr_loop5 (fun (j : Int) (Bg : Option Addr) (cg : Nat) (gs : List FacM) (Ls : List (Po (El p m mod) × Int)) => [(2, .pointer (some p0)), (25, .slice Bs fs.length cs_), (26, .int .i64 (fs.length : Nat)), (27, .int .i64 j), (5, .slice Bg gs.length cg), (7, .slice B1 (il (pol a : Po (El p m mod))).length c1), (4, .int .i64 0), (6, .int .i64 0)]) (fun (j : Int) (Bg : Option Addr) (cg : Nat) (gs : List FacM) (Ls : List (Po (El p m mod) × Int)) => [ow2 Bg 43 cg (fcs gs), rowsCh 3 (rws gs), ow2 Bs 43 cs_ (fcs fs), rowsR (rws fs), ow B1 3 c1 (ints (il (pol a : Po (El p m mod)))), blk p0 25 [.pointer (some g.p)], gfR g]) (fun (j : Int) (Bg : Option Addr) (cg : Nat) (gs : List FacM) (Ls : List (Po (El p m mod) × Int)) => (0 ≤ j ∧ j ≤ fs.length) ∧ (fpr gs = Ls.map fun x => (il x.1, x.2)) ∧ CmJ (Po.mon (pol a : Po (El p m mod))) fs j.toNat Ls ∧ gs.length ≤ 256 * j) (fun (j : Int) (Bg : Option Addr) (cg : Nat) (gs : List FacM) (Ls : List (Po (El p m mod) × Int)) => (fs.length - j).toNat) (0) (none) (0) ([]) ([]) ⟨rfl, rfl, rfl, rfl, rfl, rfl, rfl, rfl, trivial⟩ (by exact (cs _ [rowsCh 3 (rws fs), ow2 none 43 0 (fcs []), rowsCh 3 (rws []), ow2 Bs 43 cs_ (fcs fs), ow B1 3 c1 (ints (il (pol a : Po (El p m mod)))), blk p0 25 [.pointer (some g.p)], gfR g]).trans ((rows_weak _).trans (cs _ _))) (⟨⟨by omega, by omega⟩, rfl, CmJ.start, by simp⟩) (fun j Bg cg gs Ls hI => ?_)
  obtain ⟨⟨hj0, hj1⟩, hfp, hJ, hgb⟩ := hI
  refine tS ?_
  refine tR fun _ _ _ => ?_
  refine pV ?_
  refine tS ?_
  refine tC rfl (fun h5 => ?_) (fun h5 => ?_)
  ·try simp only [zbA] at h5
   refine tK ?_
   refine tS ?_
   refine tB ?_
   refine tS ?_
   have hjl : j.toNat < fs.length := by omega
   have hQm := getD_mem hjl facD
   obtain ⟨hQ1, hQ3, hQ2, hQ4, hQ5, hQ6, hQx⟩ := hI0.fc _ hQm
   have hQl := (hI0.le hmle _ hQm).1
   refine tR fun _ _ _ => ?_
   refine sV (rIdxT rfl rfl rfl (by omega) (by omega) (by simp; omega)) ?_
   refine sV (rLdT rfl rfl (by simp; omega)) ?_
   refine eV (eAlloc rfl rfl rfl (fun p6 => ?_))
   rw [fcs_get1 fs j.toNat hjl, fcs_get2 fs j.toNat hjl]
   rw [hQx]
   refine eV (eStS rfl rfl rfl rfl rfl rfl ?_)
   refine tr_chunks [ro (fs.getD j.toNat facD).r.A (ints (il (fcP p m mod (fs.getD j.toNat facD)))), blk p6 43 [.slice (fs.getD j.toNat facD).r.A (il (fcP p m mod (fs.getD j.toNat facD))).length (fs.getD j.toNat facD).r.cap, .int .i64 (fs.getD j.toNat facD).k], ow2 Bg 43 cg (fcs gs), rowsCh 3 (rws gs), ow2 Bs 43 cs_ (fcs fs), rowsR (rws fs), ow B1 3 c1 (ints (il (pol a : Po (El p m mod)))), blk p0 25 [.pointer (some g.p)], gfR g] (hQx ▸ (cs _ [rowsR (rws fs), blk p6 43 [.slice (fs.getD j.toNat facD).r.A (fs.getD j.toNat facD).r.xs.length (fs.getD j.toNat facD).r.cap, .int .i64 (fs.getD j.toNat facD).k], ow2 Bg 43 cg (fcs gs), rowsCh 3 (rws gs), ow2 Bs 43 cs_ (fcs fs), ow B1 3 c1 (ints (il (pol a : Po (El p m mod)))), blk p0 25 [.pointer (some g.p)], gfR g]).trans ((row_ro (rs := rws fs) (List.mem_map.2 ⟨_, getD_mem hjl facD, rfl⟩) _).trans (cs _ _))) ?_
   refine tS ?_
   refine tR fun _ _ _ => ?_
   refine sV (rLd0 rfl rfl) ?_
   refine sV (rFld rfl rfl) ?_
   refine sV (rLdF rfl rfl rfl) ?_
   refine eV (eCall2 rfl rfl rfl (fac_split g hg (fs.getD j.toNat facD).r.A (fs.getD j.toNat facD).r.cap (fcP p m mod (fs.getD j.toNat facD)) hQ1 hQ2 (by omega) hQ5) ⟨rfl, rfl, trivial⟩ ?_)
   rintro _ _ _ ⟨Bp, cp, rs, qs, ps, rfl, rfl, rfl, hal, hxs, hIr, hprd, hrl⟩
   refine sV (rLen rfl rfl) ?_
   refine pV ?_
   have hpsl := xss_len hxs
   refine tr_chunks [rowsR rs, ro (fs.getD j.toNat facD).r.A (ints (il (fcP p m mod (fs.getD j.toNat facD)))), ow Bp 22 cp (hdrs rs), blk p6 43 [.slice (fs.getD j.toNat facD).r.A (il (fcP p m mod (fs.getD j.toNat facD))).length (fs.getD j.toNat facD).r.cap, .int .i64 (fs.getD j.toNat facD).k], ow2 Bg 43 cg (fcs gs), rowsCh 3 (rws gs), ow2 Bs 43 cs_ (fcs fs), rowsR (rws fs), ow B1 3 c1 (ints (il (pol a : Po (El p m mod)))), blk p0 25 [.pointer (some g.p)], gfR g] ((cs _ [rowsCh 3 qs, ro (fs.getD j.toNat facD).r.A (ints (il (fcP p m mod (fs.getD j.toNat facD)))), ow Bp 22 cp (hdrs rs), blk p6 43 [.slice (fs.getD j.toNat facD).r.A (il (fcP p m mod (fs.getD j.toNat facD))).length (fs.getD j.toNat facD).r.cap, .int .i64 (fs.getD j.toNat facD).k], ow2 Bg 43 cg (fcs gs), rowsCh 3 (rws gs), ow2 Bs 43 cs_ (fcs fs), rowsR (rws fs), ow B1 3 c1 (ints (il (pol a : Po (El p m mod)))), blk p0 25 [.pointer (some g.p)], gfR g]).trans (al_sub hal 3 _)) ?_
   refine tB ?_
   refine tr_loop4 (fun (k : Int) (Bg : Option Addr) (cg : Nat) (gs : List FacM) => [(2, .pointer (some p0)), (9, .pointer (some p6)), (34, .slice Bp rs.length cp), (35, .int .i64 (rs.length : Nat)), (36, .int .i64 k), (5, .slice Bg gs.length cg), (4, .int .i64 0), (6, .int .i64 0), (7, .slice B1 (il (pol a : Po (El p m mod))).length c1), (25, .slice Bs fs.length cs_), (26, .int .i64 (fs.length : Nat)), (27, .int .i64 j)]) (fun (k : Int) (Bg : Option Addr) (cg : Nat) (gs : List FacM) => [ow2 Bg 43 cg (fcs gs), rowsCh 3 (rws gs), rowsR rs, ow Bp 22 cp (hdrs rs), blk p6 43 [.slice (fs.getD j.toNat facD).r.A (il (fcP p m mod (fs.getD j.toNat facD))).length (fs.getD j.toNat facD).r.cap, .int .i64 (fs.getD j.toNat facD).k], ow2 Bs 43 cs_ (fcs fs), rowsR (rws fs), ow B1 3 c1 (ints (il (pol a : Po (El p m mod)))), blk p0 25 [.pointer (some g.p)], gfR g]) (fun (k : Int) (Bg : Option Addr) (cg : Nat) (gs : List FacM) => (0 ≤ k ∧ k ≤ rs.length) ∧ (fpr gs = (Ls ++ (ps.take k.toNat).map fun P => (P, (fs.getD j.toNat facD).k)).map fun x => (il x.1, x.2)) ∧ gs.length ≤ 256 * j + k) (fun (k : Int) (Bg : Option Addr) (cg : Nat) (gs : List FacM) => (rs.length - k).toNat) (0) (Bg) (cg) (gs) ⟨rfl, rfl, rfl, rfl, rfl, rfl, rfl, rfl, rfl, rfl, rfl, rfl, trivial⟩ (by first | exact cs _ _ | exact CSub.refl _) (⟨⟨by omega, by omega⟩, by rw [show Int.toNat 0 = 0 from rfl, List.take_zero, List.map_nil, List.append_nil]; exact hfp, by omega⟩) (fun k Bg cg gs hI => ?_)
   obtain ⟨⟨hk0, hk1⟩, hfk, hgb2⟩ := hI
   refine tS ?_
   refine tR fun _ _ _ => ?_
   refine pV ?_
   refine tS ?_
   refine tC rfl (fun h8 => ?_) (fun h8 => ?_)
   ·try simp only [zbA] at h8
    refine tK ?_
    refine tS ?_
    refine tB ?_
    refine tS ?_
    haveI : InB k.toNat rs.length := ⟨by omega⟩
    have hpx := xss_at hxs (show k.toNat < rs.length by omega)
    have hpi := (hIr.mem _).1 (Vc.getD_eq_mem (show k.toNat < ps.length by omega) (0 : Po (El p m mod)))
    have hpl := Po.dvd_len hpi.2.2 (lead1_ne hQ1)
    have hpl2 := il_length (ps.getD k.toNat 0)
    have hpx2 := congrArg List.length hpx
    refine tR fun _ _ _ => ?_
    refine sV (rIdxR rfl rfl rfl (by omega) (by omega) (by omega)) ?_
    refine sV (rLdR rfl rfl (by omega)) ?_
    refine pV ?_
    refine tr_draw [0, 1, 2, 4, 5, 3, 6, 7] [8, 9] mixed (by kernel_rfl) fun _ _ _ => ?_
    refine pV ?_
    refine sV (rLd0 rfl rfl) ?_
    refine pV ?_
    refine sV (rFld rfl rfl) ?_
    refine sV (rLdF rfl rfl rfl) ?_
    refine eV (eCall1 rfl rfl rfl (fac_monic g hg (rs.getD k.toNat rowD).A _ (rs.getD k.toNat rowD).cap (rs.getD k.toNat rowD).xs rfl (by omega) (by rw [hpx, pol_il]; exact lead1_ne hpi.2.1)) ⟨rfl, rfl, trivial⟩ ?_)
    rintro _ _ ⟨Bm, cm, rfl, rfl⟩
    refine sV (rBuild rfl rfl) ?_
    rw [show Po.mon (pol (rs.getD k.toNat rowD).xs : Po (El p m mod)) = ps.getD k.toNat 0 by rw [hpx, pol_il, Po.mon_of_monic hpi.2.1]]
    refine eV (eLitS rfl rfl rfl rfl (fun p10 => ?_))
    refine eV (eApp2 rfl rfl rfl rfl rfl (by first | rfl | simp) rfl (by first | (simp; done) | (simp; omega)) (by first | (simp; done) | (simp; omega)) (fun A10a c10a => ?_))
    refine pV ?_
    rw [fcs_snoc, fcs_length]
    refine tR fun _ _ _ => ?_
    refine sV (rAdd rfl rfl rfl (by omega) (by omega)) ?_
    refine pV ?_
    refine ⟨k + 1, A10a, c10a, gs ++ [⟨⟨Bm, cm, il (ps.getD k.toNat 0)⟩, (fs.getD j.toNat facD).k⟩], ⟨rfl, rfl, rfl, rfl, rfl, rfl, rfl, rfl, rfl, rfl, rfl, rfl, trivial⟩, by rw [rws_app]; exact rows_app (r := ⟨Bm, cm, il (ps.getD k.toNat 0)⟩), ?_⟩
    refine ⟨⟨⟨by omega, by omega⟩, ?_, by simp; omega⟩, by omega⟩
    rw [show (k + 1).toNat = k.toNat + 1 by omega, take_mapP (by omega), ← List.append_assoc]
    exact fpr_add hfk _ _ _ _
   ·try simp only [zbA] at h8
    refine tE ?_
    refine tR fun _ _ _ => ?_
    refine sV (rAdd rfl rfl rfl (by omega) (by omega)) ?_
    refine pV ?_
    refine ⟨j + 1, Bg, cg, gs, Ls ++ ps.map fun P => (P, (fs.getD j.toNat facD).k), ⟨rfl, rfl, rfl, rfl, rfl, rfl, rfl, rfl, trivial⟩, by first | exact cs _ _ | exact CSub.refl _, ?_⟩
    refine ⟨⟨⟨by omega, by omega⟩, ?_, ?_, by omega⟩, by omega⟩
    ·rw [show k.toNat = ps.length by omega, List.take_length] at hfk; exact hfk
    ·rw [show (j + 1).toNat = j.toNat + 1 by omega]
     exact hJ.next hm0 hI0 hjl hIr
  ·try simp only [zbA] at h5
   refine tE ?_
   refine tS ?_
   have hjf : j.toNat = fs.length := by omega
   rw [hjf] at hJ
   have hC := hJ.done hm0 hI0 hfp
   have hgl := hC.cnt hmle
   have hfle := hC.le hm0
   have hcmp : ∀ x ∈ gs, ∀ y ∈ gs, Pure Tryz.prog 45 ([Value.agg #[x.r.hdr, .int .i64 x.k], Value.agg #[y.r.hdr, .int .i64 y.k]] ++ [(.pointer (some p0) : Value)]).toArray [ro (some p0) [.pointer (some g.p)], gfR g, rowsR (rws gs)] (isV (.int .i64 (cmpL x.r.xs y.r.xs))) := fun x hx y hy => by
    have h1 := hfle x hx
    have h2 := hfle y hy
    have e1 := (hC.fc hm0 hx).2.2.2.1
    have e2 := (hC.fc hm0 hy).2.2.2.1
    have h3 := (cmt_cmp g p0 x.r.A _ x.r.cap x.k x.r.xs rfl (by omega) y.r.A _ y.r.cap y.k y.r.xs rfl (by omega)).sub (G' := [ro (some p0) [.pointer (some g.p)], gfR g, rowsR (rws gs)]) fun w hw ch hch => by
     simp only [List.mem_cons, List.not_mem_nil, or_false] at hch
     rcases hch with rfl | rfl | rfl | rfl
     ·exact hw _ (by simp)
     ·exact hw _ (by simp)
     ·exact hw (rowsR (rws gs)) (by simp) _ (List.mem_map.2 ⟨x, hx, rfl⟩)
     ·exact hw (rowsR (rws gs)) (by simp) _ (List.mem_map.2 ⟨y, hy, rfl⟩)
    rw [e1, e2, hgq, canL_il rfl, canL_il rfl, ← e1, ← e2] at h3
    exact h3
   refine tR fun _ _ _ => ?_
   refine pV ?_
   refine sV (rFun rfl rfl rfl) ?_
   refine eV (eCallM1 rfl rfl rfl (slc_SortFac hlib hnone Bg _ cg gs rfl (by omega) 45 [.pointer (some p0)] [ro (some p0) [.pointer (some g.p)], gfR g, rowsR (rws gs)] ⟨id, id, id, trivial⟩ (fun x y => cmpL x.r.xs y.r.xs) hcmp (fun x _ => cmpL_irr _) (fun x _ y _ z _ h1 h2 => cmpL_trans h1 h2) (fun x _ y _ z _ h1 h2 => cmpL_ntr h1 h2)) ⟨rfl, rfl, trivial⟩ ?_)
   rintro _ _ ⟨hs, rfl, rfl, hperm, hsrt⟩
   refine tS ?_
   have hhl := hperm.length_eq
   refine tR fun _ _ _ => ?_
   iterate 2 refine pV ?_
   refine sV (rLen rfl rfl) ?_
   refine sV (rSub rfl rfl rfl (by omega) (by omega)) ?_
   refine sV (rIdxI rfl rfl rfl (by omega) (by omega) (by omega)) ?_
   refine sV (rLdI rfl rfl (by omega)) ?_
   iterate 4 refine pV ?_
   have hlv : (il (pol a : Po (El p m mod))).getD (((il (pol a : Po (El p m mod))).length : Int) - 1).toNat 0 = (Po.lead (pol a : Po (El p m mod))).1 := by
    rw [il_getD, hil, show ((Po.len (pol a : Po (El p m mod)) : Int) - 1).toNat = Po.len (pol a : Po (El p m mod)) - 1 by omega]; rfl
   rw [hlv, ← hhl]
   exact tr_ret ⟨trivial, _, _, rfl, ⟨_, _, rfl, Bg, cg, hs, rfl, rfl, rfl, hC.perm hperm, (hC.perm hperm).rise hsrt, by omega⟩, (cs _ [rowsCh 3 (rws gs), ow2 Bg 43 cg (fcs hs)]).trans ((rows_permM (rs := rws gs) (qs := rws hs) (hperm.symm.map FacM.r) _).trans (cs _ _)), trivial, trivial, trivial⟩
end Go.Proofs.YtbhoeaijpnjgdaaGreat

set_option maxRecDepth 100000
namespace Go.Proofs.YtbhoeaijpnjgdaaGreat
open Go.RowKit
end Go.Proofs.YtbhoeaijpnjgdaaGreat

set_option maxRecDepth 100000
namespace Go.Proofs.YtbhoeaijpnjgdaaGreat
open Go.RowKit
theorem ref_PPowMod_ent : Enters Tryz.prog 48 := enters_of Tryz.func48 (by kernel_rfl) (by kernel_rfl)
theorem ref_PPowMod (p m : Int) (A : Option Addr) (c : Nat) (mod : List Int) [hF : IsF p m mod] (Xa : Option Addr) (na ca : Nat) (a : List Int) (hna : na = a.length) (ha9 : a.length ≤ 1000000) (k : Int) (hk0 : 0 ≤ k) (hk9 : k ≤ 1000000) (C : Option Addr) (nc d2 : Nat) (ml : List Int) (hnc : nc = ml.length) (hm9 : ml.length ≤ 1000000) (he : facE (Po.len (pol ml : Po (El p m mod))) = 0) :
  Pure Tryz.prog 48 #[.agg #[.int .i64 p, .int .i64 m, .slice A mod.length c], .slice Xa na ca, .int .i64 k, .slice C nc d2] [ro A (ints mod), ro Xa (ints a), ro C (ints ml)] (one (fun v ch => ∃ B cap, v = .slice B (il (Po.rem (Rg.pow (pol a : Po (El p m mod)) k.toNat) (pol ml : Po (El p m mod)))).length cap ∧ ch = ow B 3 cap (ints (il (Po.rem (Rg.pow (pol a : Po (El p m mod)) k.toNat) (pol ml : Po (El p m mod))))))) := by
 have hil := il_length (pol ml : Po (El p m mod))
 have hml := facE_ok he
 have hm0 := ne_of_len hml.1
 refine pure_of (args := [.agg #[.int .i64 p, .int .i64 m, .slice A mod.length c], .slice Xa na ca, .int .i64 k, .slice C nc d2]) 40 Tryz.func48 rfl rfl rfl ref_PPowMod_ent ⟨id, id, id, trivial⟩ (fun w0 => ?_)
 refine tS ?_
 refine tR fun _ _ _ => ?_
 refine eV (eBox rfl rfl rfl rfl rfl (fun p0 => ?_))
 refine pV ?_
 refine tS ?_
 refine tR fun _ _ _ => ?_
 refine sV (rLdS rfl rfl rfl) ?_
 refine eV (eLit1I rfl rfl rfl rfl (fun A1 => ?_))
 refine pV ?_
 refine eV (eCall1 rfl rfl rfl (ref_PRem p m A c mod A1 _ 1 [1] rfl (by simp) C nc d2 ml hnc (by omega) (by omega) hm0) ⟨rfl, rfl, rfl, trivial⟩ ?_)
 rintro _ _ ⟨B1a, c1a, rfl, rfl⟩
 refine pV ?_
 refine tS ?_
 refine tR fun _ _ _ => ?_
 refine sV (rLdS rfl rfl rfl) ?_
 iterate 2 refine pV ?_
 refine eV (eCall1 rfl rfl rfl (ref_PRem p m A c mod Xa _ ca a hna ha9 C nc d2 ml hnc (by omega) (by omega) hm0) ⟨rfl, rfl, rfl, trivial⟩ ?_)
 rintro _ _ ⟨B2, c2, rfl, rfl⟩
 refine pV ?_
 refine tS ?_
 refine tB ?_
 refine tr_loop7 (fun (t : Int) (Bx : Option Addr) (cx : Nat) (f : Po (El p m mod)) (By : Option Addr) (cy : Nat) (b : Po (El p m mod)) => [(2, .int .i64 t), (9, .slice Bx (il f).length cx), (1, .slice By (il b).length cy), (3, .slice C nc d2), (4, .pointer (some p0)), (8, .slice none 0 0)]) (fun (t : Int) (Bx : Option Addr) (cx : Nat) (f : Po (El p m mod)) (By : Option Addr) (cy : Nat) (b : Po (El p m mod)) => [ow Bx 3 cx (ints (il f)), ow By 3 cy (ints (il b)), blk p0 24 [.int .i64 p, .int .i64 m, .slice A mod.length c], ro A (ints mod), ro C (ints ml)]) (fun (t : Int) (Bx : Option Addr) (cx : Nat) (f : Po (El p m mod)) (By : Option Addr) (cy : Nat) (b : Po (El p m mod)) => (0 ≤ t ∧ t ≤ k) ∧ Po.len f < Po.len (pol ml : Po (El p m mod)) ∧ Po.len b < Po.len (pol ml : Po (El p m mod)) ∧ (pol ml : Po (El p m mod)) ∣ f * Rg.pow b t.toNat - Rg.pow (pol a : Po (El p m mod)) k.toNat) (fun (t : Int) (Bx : Option Addr) (cx : Nat) (f : Po (El p m mod)) (By : Option Addr) (cy : Nat) (b : Po (El p m mod)) => t.toNat) (k) (B1a) (c1a) ((Po.rem (pol [1]) (pol ml : Po (El p m mod)))) (B2) (c2) ((Po.rem (pol a : Po (El p m mod)) (pol ml : Po (El p m mod)))) ⟨rfl, rfl, rfl, rfl, rfl, rfl, trivial⟩ (by first | exact cs _ _ | exact CSub.refl _) (⟨⟨by omega, by omega⟩, Po.rem_len _ hm0, Po.rem_len _ hm0, by rw [pol_one1]; exact rem_pow_start hm0 _⟩) (fun t Bx cx f By cy b hI => ?_)
 obtain ⟨⟨ht0, ht9⟩, hfl, hbl, hd⟩ := hI
 refine tS ?_
 refine tS ?_
 refine tR fun _ _ _ => ?_
 iterate 2 refine pV ?_
 refine tC rfl (fun h3 => ?_) (fun h3 => ?_)
 ·try simp only [zbA] at h3
  refine tK ?_
  refine tB ?_
  refine tS ?_
  refine tS ?_
  have hilf := il_length f
  have hilb := il_length b
  have e13 : Po.len (pol (il f) : Po (El p m mod)) = (il f).length := by rw [pol_il, il_length]
  have e14 : Po.len (pol (il b) : Po (El p m mod)) = (il b).length := by rw [pol_il, il_length]
  have l1 := il_length (pol (il f) * pol (il b) : Po (El p m mod))
  have l2 := len_mul_le (pol (il f)) (pol (il b) : Po (El p m mod))
  have l3 := il_length (pol (il b) * pol (il b) : Po (El p m mod))
  have l4 := len_mul_le (pol (il b)) (pol (il b) : Po (El p m mod))
  refine tR fun _ _ _ => ?_
  refine pV ?_
  refine sV (rRem rfl rfl rfl (by omega) (by omega)) ?_
  refine pV ?_
  refine tC rfl (fun h4 => ?_) (fun h4 => ?_)
  ·try simp only [zbA] at h4
   refine tr_draw [0, 1, 2, 3, 5, 4, 6, 7] [] mixed (by kernel_rfl) fun _ _ _ => ?_
   refine sV (rLdS rfl rfl rfl) ?_
   refine sV (rLdS rfl rfl rfl) ?_
   iterate 3 refine pV ?_
   refine eV (eCall1 rfl rfl rfl (ref_PMulL p m A c mod Bx _ cx (il f) rfl (by omega) By _ cy (il b) rfl (by omega) (by rw [pol_il]; omega)) ⟨rfl, rfl, rfl, trivial⟩ ?_)
   rintro _ _ ⟨B5, c5, rfl, rfl⟩
   refine eV (eCall1 rfl rfl rfl (ref_PRem p m A c mod B5 _ c5 (il (pol (il f) * pol (il b) : Po (El p m mod))) rfl (by omega) C nc d2 ml hnc (by omega) (by omega) hm0) ⟨rfl, rfl, rfl, trivial⟩ ?_)
   rintro _ _ ⟨B5a, c5a, rfl, rfl⟩
   refine pV ?_
   rw [pol_il, pol_il, pol_il]
   refine tS ?_
   refine tr_draw [0, 1, 2, 3, 5, 4, 6, 7] [] mixed (by kernel_rfl) fun _ _ _ => ?_
   refine sV (rLdS rfl rfl rfl) ?_
   refine sV (rLdS rfl rfl rfl) ?_
   iterate 3 refine pV ?_
   refine eV (eCall1 rfl rfl rfl (ref_PMulL p m A c mod By _ cy (il b) rfl (by omega) By _ cy (il b) rfl (by omega) (by rw [pol_il]; omega)) ⟨rfl, rfl, rfl, trivial⟩ ?_)
   rintro _ _ ⟨B6, c6, rfl, rfl⟩
   refine eV (eCall1 rfl rfl rfl (ref_PRem p m A c mod B6 _ c6 (il (pol (il b) * pol (il b) : Po (El p m mod))) rfl (by omega) C nc d2 ml hnc (by omega) (by omega) hm0) ⟨rfl, rfl, rfl, trivial⟩ ?_)
   rintro _ _ ⟨B6a, c6a, rfl, rfl⟩
   refine pV ?_
   rw [pol_il, pol_il]
   refine tR fun _ _ _ => ?_
   refine pV ?_
   refine sV (rQuo rfl rfl rfl (by omega) (by omega)) ?_
   refine pV ?_
   refine ⟨t / 2, B5a, c5a, (Po.rem (f * b) (pol ml : Po (El p m mod))), B6a, c6a, (Po.rem (b * b) (pol ml : Po (El p m mod))), ⟨rfl, rfl, rfl, rfl, rfl, rfl, trivial⟩, by first | exact cs _ _ | exact CSub.refl _, ?_⟩
   exact ⟨⟨⟨by omega, by omega⟩, Po.rem_len _ hm0, Po.rem_len _ hm0, by rw [show (t / 2).toNat = t.toNat / 2 by omega]; exact (rem_pow_step hm0 hd).1 (by omega)⟩, by omega⟩
  ·try simp only [zbA] at h4
   refine tK ?_
   refine tS ?_
   refine tr_draw [0, 1, 2, 3, 5, 4, 6, 7] [] mixed (by kernel_rfl) fun _ _ _ => ?_
   refine sV (rLdS rfl rfl rfl) ?_
   refine sV (rLdS rfl rfl rfl) ?_
   iterate 3 refine pV ?_
   refine eV (eCall1 rfl rfl rfl (ref_PMulL p m A c mod By _ cy (il b) rfl (by omega) By _ cy (il b) rfl (by omega) (by rw [pol_il]; omega)) ⟨rfl, rfl, rfl, trivial⟩ ?_)
   rintro _ _ ⟨B6, c6, rfl, rfl⟩
   refine eV (eCall1 rfl rfl rfl (ref_PRem p m A c mod B6 _ c6 (il (pol (il b) * pol (il b) : Po (El p m mod))) rfl (by omega) C nc d2 ml hnc (by omega) (by omega) hm0) ⟨rfl, rfl, rfl, trivial⟩ ?_)
   rintro _ _ ⟨B6a, c6a, rfl, rfl⟩
   refine pV ?_
   rw [pol_il, pol_il]
   refine tR fun _ _ _ => ?_
   refine pV ?_
   refine sV (rQuo rfl rfl rfl (by omega) (by omega)) ?_
   refine pV ?_
   refine ⟨t / 2, Bx, cx, f, B6a, c6a, (Po.rem (b * b) (pol ml : Po (El p m mod))), ⟨rfl, rfl, rfl, rfl, rfl, rfl, trivial⟩, by first | exact cs _ _ | exact CSub.refl _, ?_⟩
   exact ⟨⟨⟨by omega, by omega⟩, hfl, Po.rem_len _ hm0, by rw [show (t / 2).toNat = t.toNat / 2 by omega]; exact (rem_pow_step hm0 hd).2 (by omega)⟩, by omega⟩
 ·try simp only [zbA] at h3
  refine tE ?_
  refine tS ?_
  refine tR fun _ _ _ => ?_
  iterate 2 refine pV ?_
  have htz : t.toNat = 0 := by omega
  rw [htz] at hd
  have hfe := rem_uniq hm0 hfl (show (pol ml : Po (El p m mod)) ∣ f - Rg.pow (pol a : Po (El p m mod)) k.toNat by
   have e : f * Rg.pow b 0 = f := by show f * 1 = f; grind
   rw [e] at hd; exact hd)
  subst hfe
  exact tr_ret ⟨trivial, _, _, rfl, ⟨_, rfl, Bx, cx, rfl, rfl⟩, cs _ _, trivial, trivial⟩
section
variable {p m : Int} {mod : List Int} [hF : IsF p m mod]
theorem irr_low {P : Po (El p m mod)} (h : Po.len P < 2) : irB P = false := irB_no fun hi => by have := hi.two; omega
theorem xq_step {P f : Po (El p m mod)} {i : Nat} (hP : P ≠ 0) (h : P ∣ f - Rg.pow Po.X ((pw p m).toNat ^ i)) : Po.rem (Rg.pow f (pw p m).toNat) P = Po.rem (Rg.pow Po.X ((pw p m).toNat ^ (i + 1))) P := by
 rw [Po.rem_eq_iff hP]
 have := fpow_congr h (pw p m).toNat
 rwa [← Rg.pow_mul, ← Nat.pow_succ] at this
theorem gcd_half {P : Po (El p m mod)} (hP : P ≠ 0) (i : Nat) : Po.gcd P (Po.rem (Rg.pow Po.X ((pw p m).toNat ^ i)) P - Po.X) = Po.gcd P (xq p m mod i) := gcd_sub_xq hP i
theorem rem_back {P f : Po (El p m mod)} (hP : P ≠ 0) : P ∣ Po.rem f P - f := by
 obtain ⟨z, hz⟩ := Po.rem_sub_dvd f hP
 exact ⟨-z, by rw [Rg.mul_neg, ← hz]; grind⟩
end
theorem ref_Irreducible_ent : Enters Tryz.prog 19 := enters_of Tryz.func19 (by kernel_rfl) (by kernel_rfl)
theorem ref_Irreducible (p m : Int) (A : Option Addr) (c : Nat) (mod : List Int) [hF : IsF p m mod] (Xa : Option Addr) (na ca : Nat) (a : List Int) (hna : na = a.length) (ha9 : a.length ≤ 17592186044415) (h9 : Po.len (pol a : Po (El p m mod)) ≤ 257) :
  Pure Tryz.prog 19 #[.agg #[.int .i64 p, .int .i64 m, .slice A mod.length c], .slice Xa na ca] [ro A (ints mod), ro Xa (ints a)] (isV (.bool (irB (pol a : Po (El p m mod))))) := by
 have hq2 := hF.q2
 have hq9 := hF.out.1.1.q
 have hord := hF.ord
 have hil := il_length (pol a : Po (El p m mod))
 refine pure_of (args := [.agg #[.int .i64 p, .int .i64 m, .slice A mod.length c], .slice Xa na ca]) 37 Tryz.func19 rfl rfl rfl ref_Irreducible_ent ⟨id, id, trivial⟩ (fun w0 => ?_)
 refine tS ?_
 refine tR fun _ _ _ => ?_
 refine eV (eBox rfl rfl rfl rfl rfl (fun p0 => ?_))
 refine pV ?_
 refine tS ?_
 refine tR fun _ _ _ => ?_
 refine sV (rLdS rfl rfl rfl) ?_
 refine pV ?_
 refine eV (eCall1 rfl rfl rfl (ref_CanonE p m A c mod Xa na ca a hna ha9) ⟨rfl, rfl, trivial⟩ ?_)
 rintro _ _ ⟨B1, c1, rfl, rfl⟩
 refine pV ?_
 refine tS ?_
 refine tS ?_
 refine tR fun _ _ _ => ?_
 refine pV ?_
 refine sV (rLen rfl rfl) ?_
 refine pV ?_
 refine tC rfl (fun h2 => ?_) (fun h2 => ?_)
 ·try simp only [zbA] at h2
  refine tS ?_
  refine tR fun _ _ _ => ?_
  refine pV ?_
  exact tr_ret ⟨trivial, _, _, rfl, ⟨by rw [irr_low (by omega)], rfl⟩, CSub.nil _, trivial⟩
 ·try simp only [zbA] at h2
  refine tK ?_
  refine tS ?_
  have hfe : facE (Po.len (pol a : Po (El p m mod))) = 0 := by rw [facE, if_neg (by omega), if_neg (by omega)]
  have hm0 := ne_of_len (facE_ok hfe).1
  refine tR fun _ _ _ => ?_
  refine eV (eLit2I rfl rfl rfl rfl rfl (fun A4 => ?_))
  refine pV ?_
  refine tS ?_
  refine tS ?_
  refine tR fun _ _ _ => ?_
  refine pV ?_
  refine tB ?_
  refine tr_loop4 (fun (i : Int) (Bl : Option Addr) (cl : Nat) (l : List Int) => [(5, .slice Bl l.length cl), (6, .int .i64 i), (1, .slice B1 (il (pol a : Po (El p m mod))).length c1), (2, .pointer (some p0))]) (fun (i : Int) (Bl : Option Addr) (cl : Nat) (l : List Int) => [ow Bl 3 cl (ints l), ow B1 3 c1 (ints (il (pol a : Po (El p m mod)))), blk p0 24 [.int .i64 p, .int .i64 m, .slice A mod.length c], ro A (ints mod)]) (fun (i : Int) (Bl : Option Addr) (cl : Nat) (l : List Int) => (1 ≤ i ∧ 2 * i ≤ Po.len (pol a : Po (El p m mod)) + 2) ∧ l.length ≤ 300 ∧ (pol a : Po (El p m mod)) ∣ pol l - Rg.pow Po.X ((pw p m).toNat ^ (i - 1).toNat) ∧ ∀ j : Nat, 1 ≤ j → (j : Int) < i → Po.gcd (pol a : Po (El p m mod)) (xq p m mod j) = 1) (fun (i : Int) (Bl : Option Addr) (cl : Nat) (l : List Int) => (Po.len (pol a : Po (El p m mod)) + 2 - 2 * i).toNat) (1) (A4) (2) ([0, 1]) ⟨rfl, rfl, rfl, rfl, trivial⟩ (by first | exact cs _ _ | exact CSub.refl _) (⟨⟨by omega, by omega⟩, by simp, by rw [pol_X01, show ((1 : Int) - 1).toNat = 0 from rfl, Nat.pow_zero, show Rg.pow (Po.X : Po (El p m mod)) 1 = Po.X from Rg.one_mul _, Rg.sub_self]; exact Po.dvd_zero _, fun j h1 h2 => by omega⟩) (fun i Bl cl l hI => ?_)
  obtain ⟨⟨hi0, hi1⟩, hll, hl, hall⟩ := hI
  refine tS ?_
  refine tS ?_
  refine tR fun _ _ _ => ?_
  refine pV ?_
  refine sV (rMul rfl rfl rfl (by omega) (by omega)) ?_
  refine pV ?_
  refine sV (rLen rfl rfl) ?_
  refine pV ?_
  refine tC rfl (fun h6 => ?_) (fun h6 => ?_)
  ·try simp only [zbA] at h6
   refine tK ?_
   refine tS ?_
   refine tB ?_
   refine tS ?_
   refine tr_draw [0, 1, 2, 4, 3, 5, 6] [] mixed (by kernel_rfl) fun _ _ _ => ?_
   refine sV (rLdS rfl rfl rfl) ?_
   refine pV ?_
   refine sV (rLdS rfl rfl rfl) ?_
   refine pV ?_
   refine eV (eCallV rfl rfl rfl (ref_order p m A c mod) ⟨rfl, trivial⟩ ?_)
   rw [hord]
   refine eV (eCall1 rfl rfl rfl (ref_PPowMod p m A c mod Bl _ cl l rfl (by omega) (pw p m) (by omega) (by omega) B1 _ c1 (il (pol a : Po (El p m mod))) rfl (by omega) (by rw [pol_il]; exact hfe)) ⟨rfl, rfl, rfl, rfl, trivial⟩ ?_)
   rintro _ _ ⟨B8, c8, rfl, rfl⟩
   refine pV ?_
   rw [pol_il, xq_step hm0 hl, show (i - 1).toNat + 1 = i.toNat by omega]
   refine tS ?_
   have hiln := il_length (Po.rem (Rg.pow Po.X ((pw p m).toNat ^ i.toNat)) (pol a : Po (El p m mod)))
   have hlrn := Po.rem_len (Rg.pow Po.X ((pw p m).toNat ^ i.toNat)) hm0
   have hs1 := il_length (pol (il (Po.rem (Rg.pow Po.X ((pw p m).toNat ^ i.toNat)) (pol a : Po (El p m mod)))) - pol [0, 1] : Po (El p m mod))
   have hs2 := Po.len_sub (pol (il (Po.rem (Rg.pow Po.X ((pw p m).toNat ^ i.toNat)) (pol a : Po (El p m mod))))) (pol [0, 1] : Po (El p m mod))
   have hs3 : Po.len (pol (il (Po.rem (Rg.pow Po.X ((pw p m).toNat ^ i.toNat)) (pol a : Po (El p m mod)))) : Po (El p m mod)) = Po.len (Po.rem (Rg.pow Po.X ((pw p m).toNat ^ i.toNat)) (pol a : Po (El p m mod))) := by rw [pol_il]
   have hs4 : Po.len (pol [0, 1] : Po (El p m mod)) ≤ 2 := Po.len_le (pol_sh [0, 1])
   have hs5 := il_length (Po.gcd (pol (il (pol a : Po (El p m mod)))) (pol (il (pol (il (Po.rem (Rg.pow Po.X ((pw p m).toNat ^ i.toNat)) (pol a : Po (El p m mod)))) - pol [0, 1] : Po (El p m mod)))) : Po (El p m mod))
   have hs6 := gcd_len (p := p) (m := m) (mod := mod) (f := pol (il (pol (il (Po.rem (Rg.pow Po.X ((pw p m).toNat ^ i.toNat)) (pol a : Po (El p m mod)))) - pol [0, 1] : Po (El p m mod)))) (show (pol (il (pol a : Po (El p m mod))) : Po (El p m mod)) ≠ 0 by rw [pol_il]; exact hm0)
   have hs7 : Po.len (pol (il (pol a : Po (El p m mod))) : Po (El p m mod)) = Po.len (pol a : Po (El p m mod)) := by rw [pol_il]
   have hge : (Po.gcd (pol (il (pol a : Po (El p m mod)))) (pol (il (pol (il (Po.rem (Rg.pow Po.X ((pw p m).toNat ^ i.toNat)) (pol a : Po (El p m mod)))) - pol [0, 1] : Po (El p m mod)))) : Po (El p m mod)) = Po.gcd (pol a : Po (El p m mod)) (xq p m mod i.toNat) := by rw [pol_il, pol_il, pol_il, pol_X01]; exact gcd_half hm0 _
   have hpg : Po.len (pol (il (Po.gcd (pol (il (pol a : Po (El p m mod)))) (pol (il (pol (il (Po.rem (Rg.pow Po.X ((pw p m).toNat ^ i.toNat)) (pol a : Po (El p m mod)))) - pol [0, 1] : Po (El p m mod)))) : Po (El p m mod))) : Po (El p m mod)) = Po.len (Po.gcd (pol (il (pol a : Po (El p m mod)))) (pol (il (pol (il (Po.rem (Rg.pow Po.X ((pw p m).toNat ^ i.toNat)) (pol a : Po (El p m mod)))) - pol [0, 1] : Po (El p m mod)))) : Po (El p m mod)) := by rw [pol_il]
   refine tr_draw [0, 1, 2, 3, 4, 5, 6, 7, 8, 9] [] mixed (by kernel_rfl) fun _ _ _ => ?_
   refine sV (rLdS rfl rfl rfl) ?_
   refine sV (rLdS rfl rfl rfl) ?_
   refine pV ?_
   refine sV (rLdS rfl rfl rfl) ?_
   refine pV ?_
   refine eV (eLit2I rfl rfl rfl rfl rfl (fun A9 => ?_))
   refine eV (eCall1 rfl rfl rfl (ref_PSub p m A c mod B8 _ c8 (il (Po.rem (Rg.pow Po.X ((pw p m).toNat ^ i.toNat)) (pol a : Po (El p m mod)))) rfl (by omega) A9 _ 2 [0, 1] rfl (by simp)) ⟨rfl, rfl, rfl, trivial⟩ ?_)
   rintro _ _ ⟨Bs, cs_, rfl, rfl⟩
   refine eV (eCall1 rfl rfl rfl (ref_PGcd p m A c mod B1 _ c1 (il (pol a : Po (El p m mod))) rfl (by omega) Bs _ cs_ (il (pol (il (Po.rem (Rg.pow Po.X ((pw p m).toNat ^ i.toNat)) (pol a : Po (El p m mod)))) - pol [0, 1])) rfl (by omega)) ⟨rfl, rfl, rfl, trivial⟩ ?_)
   rintro _ _ ⟨Bg, cg, rfl, rfl⟩
   refine eV (eCallV rfl rfl rfl (ref_PDegree p m A c mod Bg _ cg (il (Po.gcd (pol (il (pol a : Po (El p m mod)))) (pol (il (pol (il (Po.rem (Rg.pow Po.X ((pw p m).toNat ^ i.toNat)) (pol a : Po (El p m mod)))) - pol [0, 1] : Po (El p m mod)))) : Po (El p m mod))) rfl (by omega)) ⟨rfl, rfl, trivial⟩ ?_)
   refine pV ?_
   refine tC rfl (fun h9 => ?_) (fun h9 => ?_)
   ·try simp only [zbA] at h9
    refine tS ?_
    refine tR fun _ _ _ => ?_
    refine pV ?_
    have hno : irB (pol a : Po (El p m mod)) = false := irB_no fun hi => by
     have := (half_test (n := Po.len (pol a : Po (El p m mod)) - 1) (by omega) (by omega)).1 hi i.toNat (by omega) (by omega)
     rw [hpg, hge, this, Po.len_one] at h9
     omega
    exact tr_ret ⟨trivial, _, _, rfl, ⟨by rw [hno], rfl⟩, CSub.nil _, trivial⟩
   ·try simp only [zbA] at h9
    refine tK ?_
    refine tR fun _ _ _ => ?_
    refine pV ?_
    refine sV (rAdd rfl rfl rfl (by omega) (by omega)) ?_
    refine pV ?_
    refine ⟨i + 1, B8, c8, il (Po.rem (Rg.pow Po.X ((pw p m).toNat ^ i.toNat)) (pol a : Po (El p m mod))), ⟨rfl, rfl, rfl, rfl, trivial⟩, by first | exact cs _ _ | exact CSub.refl _, ?_⟩
    refine ⟨⟨⟨by omega, by omega⟩, by omega, ?_, fun j h1 h2 => ?_⟩, by omega⟩
    ·rw [pol_il, show (i + 1 - 1).toNat = i.toNat by omega]; exact rem_back hm0
    ·by_cases e : (j : Int) < i
     ·exact hall j h1 e
     ·rw [show j = i.toNat by omega]
      refine Po.gcd_one_of hm0 ?_
      rw [← hge]; omega
  ·try simp only [zbA] at h6
   refine tE ?_
   refine tS ?_
   refine tR fun _ _ _ => ?_
   refine pV ?_
   have hyes : irB (pol a : Po (El p m mod)) = true := irB_iff.2 ((half_test (n := Po.len (pol a : Po (El p m mod)) - 1) (by omega) (by omega)).2 fun j h1 h2 => hall j h1 (by omega))
   exact tr_ret ⟨trivial, _, _, rfl, ⟨by rw [hyes], rfl⟩, CSub.nil _, trivial⟩
end Go.Proofs.YtbhoeaijpnjgdaaGreat

namespace Go.Proofs.YtbhoeaijpnjgdaaGreat
open Go.RowKit
theorem fpr_at {fs gs : List FacM} (h : fpr fs = fpr gs) (j : Nat) : (fs.getD j facD).r.xs = (gs.getD j facD).r.xs ∧ (fs.getD j facD).k = (gs.getD j facD).k := by
 have hg : ∀ l : List FacM, ((l.getD j facD).r.xs, (l.getD j facD).k) = (fpr l).getD j ([], 0) := fun l => by
  unfold fpr
  rw [List.getD_eq_getElem?_getD, List.getD_eq_getElem?_getD, List.getElem?_map]
  cases l[j]? <;> rfl
 have := (hg fs).trans ((congrArg (fun l => l.getD j ([], 0)) h).trans (hg gs).symm)
 simpa only [Prod.mk.injEq] using this
theorem fpr_eq {fs gs : List FacM} (hl : fs.length = gs.length) (h : ∀ j, j < fs.length → (fs.getD j facD).r.xs = (gs.getD j facD).r.xs ∧ (fs.getD j facD).k = (gs.getD j facD).k) : fpr fs = fpr gs := by
 apply List.ext_getElem (by simpa using hl)
 intro j h1 h2
 have h1' : j < fs.length := by simpa using h1
 have h2' : j < gs.length := by simpa using h2
 have := h j h1'
 rw [List.getD_eq_getElem?_getD, List.getElem?_eq_getElem h1', List.getD_eq_getElem?_getD, List.getElem?_eq_getElem h2'] at this
 simp only [Option.getD_some] at this
 simp only [fpr, List.getElem_map]
 rw [this.1, this.2]
section
variable {p m : Int} {mod : List Int} [hF : IsF p m mod]
open Po
theorem rise_nd {gs : List FacM} (h : RisF gs) : (gs.map fun e => e.r.xs).Nodup := by
 refine List.pairwise_map.2 (h.imp fun {x y} hxy => ?_)
 intro (he : x.r.xs = y.r.xs)
 rw [he] at hxy
 exact cmpL_irr _ hxy
theorem cmI_of {gs : List FacM} (h : ∀ e ∈ gs, lead (fcP p m mod e) = 1 ∧ 1 ≤ e.k ∧ Ir (fcP p m mod e) ∧ e.r.xs = il (fcP p m mod e)) (hr : RisF gs) : lead (prF p m mod 1 gs gs.length) = 1 ∧ CmI (prF p m mod 1 gs gs.length) gs := by
 have hnd := rise_nd hr
 have h0 : ∀ e ∈ gs, lead (fcP p m mod e) = 1 ∧ 0 ≤ e.k := fun e he => ⟨(h e he).1, by have := (h e he).2.1; omega⟩
 have hle := (prF_mu h0 gs.length (Nat.le_refl _)).1
 have hf0 := lead1_ne hle
 have h3 : ∀ e ∈ gs, lead (fcP p m mod e) = 1 ∧ 0 ≤ e.k ∧ Ir (fcP p m mod e) ∧ e.r.xs = il (fcP p m mod e) := fun e he => ⟨(h e he).1, (h0 e he).2, (h e he).2.2⟩
 have hmu : ∀ e ∈ gs, mu (fcP p m mod e) (prF p m mod 1 gs gs.length) = e.k.toNat := fun e he => by
  obtain ⟨j, hj, rfl⟩ := List.getElem_of_mem he
  obtain ⟨a, b, c, d⟩ := h _ he
  have hg : gs.getD j facD = gs[j] := by rw [List.getD_eq_getElem?_getD, List.getElem?_eq_getElem hj]; rfl
  have := (prF_mu3 h3 hnd c a gs.length (Nat.le_refl _)).1 j hj (by rw [hg]; exact d)
  rw [this, hg]
 refine ⟨hle, fun e he => ?_, fun P a b c => ?_, hnd⟩
 ·obtain ⟨a, b, c, d⟩ := h e he
  have := hmu e he
  exact ⟨_, d, c, a, (mu_pos c hf0).2 (by omega), by rw [this]; omega⟩
 ·refine Classical.byContradiction fun hno => ?_
  have := (prF_mu3 h3 hnd a b gs.length (Nat.le_refl _)).2 fun j hj hx => hno ⟨_, getD_mem hj facD, hx⟩
  have h5 := (mu_pos a hf0).1 c
  omega
theorem lead_C_mul {c : El p m mod} (hc : c ≠ 0) {f : Po (El p m mod)} (hf : lead f = 1) : lead (C c * f) = c ∧ mon (C c * f) = f := by
 have h0 := lead1_ne hf
 have h1 : lead (C c * f) = c := by rw [lead_mul (C_ne hc) h0, lead_C hc, hf, Rg.mul_one]
 refine ⟨h1, ?_⟩
 unfold mon
 rw [h1, ← Rg.mul_assoc, C_mul, Fd.inv_mul _ hc, C_one, Rg.one_mul]
theorem unq {ld : Int} (hld : 0 < ld ∧ ld < pw p m) {fs gs : List FacM} (h : ∀ e ∈ fs, lead (fcP p m mod e) = 1 ∧ 1 ≤ e.k ∧ Ir (fcP p m mod e) ∧ e.r.xs = il (fcP p m mod e)) (hr : RisF fs) (hC : CmI (mon (prF p m mod ld fs fs.length)) gs) (hR : RisF gs) : (lead (prF p m mod ld fs fs.length)).1 = ld ∧ fpr gs = fpr fs := by
 have hc : (el ld : El p m mod) ≠ 0 := fun e => by
  have := (el_eq_zero (p := p) (m := m) (mod := mod) ⟨by omega, hld.2⟩).1 e
  omega
 obtain ⟨h1, h2⟩ := cmI_of h hr
 obtain ⟨h3, h4⟩ := lead_C_mul hc h1
 rw [prF_C] at hC ⊢
 rw [h4] at hC
 exact ⟨by rw [h3]; exact el_in ⟨by omega, hld.2⟩, hC.uniq (lead1_ne h1) h2 hR hr⟩
theorem prF_ne {ld : Int} (hld : 0 < ld ∧ ld < pw p m) {fs : List FacM} (h : ∀ e ∈ fs, lead (fcP p m mod e) = 1 ∧ 0 ≤ e.k) : 1 ≤ len (prF p m mod ld fs fs.length) := by
 have hc : (el ld : El p m mod) ≠ 0 := fun e => by
  have := (el_eq_zero (p := p) (m := m) (mod := mod) ⟨by omega, hld.2⟩).1 e
  omega
 rw [prF_C, len_C_mul hc]
 exact len_pos (lead1_ne (prF_mu h fs.length (Nat.le_refl _)).1)
structure GdU (e : FacM) : Prop where
 sh : e.r.xs.length ≤ 25
 ok : facE (len (pol e.r.xs : Po (El p m mod))) = 0
 k1 : 1 ≤ e.k
 ld : (il (pol e.r.xs : Po (El p m mod))).getD (((il (pol e.r.xs : Po (El p m mod))).length : Int) - 1).toNat 0 = 1
 cn : il (pol e.r.xs : Po (El p m mod)) = e.r.xs
theorem GdU.fc {e : FacM} (h : GdU (p := p) (m := m) (mod := mod) e) : lead (fcP p m mod e) = 1 ∧ e.r.xs = il (fcP p m mod e) := by
 have hq := hF.q2
 have h1 := facE_ok h.ok
 have h2 := h.ld
 rw [il_getD, il_length, show ((len (pol e.r.xs : Po (El p m mod)) : Int) - 1).toNat = len (pol e.r.xs : Po (El p m mod)) - 1 by omega] at h2
 refine ⟨El.ext (h2.trans ?_), h.cn.symm⟩
 have := congrArg Subtype.val (el_one (p := p) (m := m) (mod := mod))
 exact ((el_in ⟨by omega, by omega⟩).symm.trans this)
theorem ris_of {fs : List FacM} (h : ∀ j, 0 < j → j < fs.length → cmpL (fs.getD (j - 1) facD).r.xs (fs.getD j facD).r.xs < 0) : RisF fs := by
 unfold RisF
 rw [List.pairwise_iff_getElem]
 intro i j hi hj hij
 have key : ∀ d i, i + d + 1 < fs.length → cmpL (fs.getD i facD).r.xs (fs.getD (i + d + 1) facD).r.xs < 0 := fun d => by
  induction d with
  | zero => intro i hi; have := h (i + 1) (by omega) hi; rwa [Nat.add_sub_cancel] at this
  | succ d ih =>
   intro i hi
   have h1 := ih i (by omega)
   have h2 := h (i + (d + 1) + 1) (by omega) hi
   rw [show i + (d + 1) + 1 - 1 = i + d + 1 by omega] at h2
   exact cmpL_trans h1 h2
 have := key (j - i - 1) i (by omega)
 rw [show i + (j - i - 1) + 1 = j by omega, List.getD_eq_getElem?_getD, List.getElem?_eq_getElem hi, List.getD_eq_getElem?_getD, List.getElem?_eq_getElem hj] at this
 exact this
end
end Go.Proofs.YtbhoeaijpnjgdaaGreat

set_option maxRecDepth 100000
namespace Go.Proofs.YtbhoeaijpnjgdaaGreat
open Go.RowKit
theorem ref_Same6_ent : Enters Tryz.prog 14 := enters_of Tryz.func14 (by kernel_rfl) (by kernel_rfl)
theorem ref_Same6 (X : Option Addr) (nx cx : Nat) (fs : List FacM) (hnx : nx = fs.length) (Y : Option Addr) (ny cy : Nat) (gs : List FacM) (hny : ny = gs.length) (hf9 : fs.length ≤ 17592186044415) (hg9 : gs.length ≤ 17592186044415) (hx9 : ∀ f ∈ fs, f.r.xs.length ≤ 17592186044415) :
  Pure Tryz.prog 14 #[.slice X nx cx, .slice Y ny cy] [ro X (prs (fcs fs)), rowsR (rws fs), ro Y (prs (fcs gs)), rowsR (rws gs)] (isV (.bool (decide (fpr fs = fpr gs)))) := by
 refine pure_of (args := [.slice X nx cx, .slice Y ny cy]) 42 Tryz.func14 rfl rfl rfl ref_Same6_ent ⟨id, id, id, id, trivial⟩ (fun w0 => ?_)
 refine tS ?_
 refine tR fun _ _ _ => ?_
 refine pV ?_
 refine tS ?_
 refine tS ?_
 refine tR fun _ _ _ => ?_
 refine pV ?_
 refine sV (rLenS rfl rfl) ?_
 refine pV ?_
 refine sV (rLenS rfl rfl) ?_
 refine pV ?_
 refine tC rfl (fun h1 => ?_) (fun h1 => ?_)
 ·try simp only [zbA] at h1
  refine tS ?_
  refine tR fun _ _ _ => ?_
  refine pV ?_
  exact tr_ret ⟨trivial, _, _, rfl, ⟨by rw [decide_eq_false (fun h => absurd (by have := congrArg List.length h; simpa using this) (show ¬ fs.length = gs.length by omega))], rfl⟩, CSub.nil _, trivial⟩
 ·try simp only [zbA] at h1
  refine tK ?_
  refine tS ?_
  refine tS ?_
  refine tR fun _ _ _ => ?_
  refine pV ?_
  refine tB ?_
  refine tr_loop1 (fun (k : Int) => [(5, .int .i64 k), (0, .slice X nx cx), (1, .slice Y ny cy)]) (fun (k : Int) => [ro X (prs (fcs fs)), rowsR (rws fs), ro Y (prs (fcs gs)), rowsR (rws gs)]) (fun (k : Int) => (0 ≤ k ∧ k ≤ fs.length) ∧ ∀ j : Nat, (j : Int) < k → (fs.getD j facD).r.xs = (gs.getD j facD).r.xs ∧ (fs.getD j facD).k = (gs.getD j facD).k) (fun (k : Int) => ((fs.length : Int) - k).toNat) (0) ⟨rfl, rfl, rfl, trivial⟩ (by first | exact cs _ _ | exact CSub.refl _) (⟨⟨by omega, by omega⟩, fun j hj => by omega⟩) (fun k hI => ?_)
  obtain ⟨⟨hk0, hk1⟩, hall⟩ := hI
  refine tS ?_
  refine tS ?_
  refine tR fun _ _ _ => ?_
  iterate 2 refine pV ?_
  refine sV (rLenS rfl rfl) ?_
  refine pV ?_
  refine tC rfl (fun h4 => ?_) (fun h4 => ?_)
  ·try simp only [zbA] at h4
   refine tK ?_
   refine tS ?_
   refine tB ?_
   refine tS ?_
   have hj1 : k.toNat < fs.length := by omega
   have hj2 : k.toNat < gs.length := by omega
   haveI : InB k.toNat fs.length := ⟨hj1⟩
   haveI : InB k.toNat gs.length := ⟨hj2⟩
   by_cases hs : (fs.getD k.toNat facD).k = (gs.getD k.toNat facD).k
   ·refine tr_draw [0, 1, 2, 3, 4, 5, 6, 7, 8, 9, 10, 11, 12, 13, 14, 15, 16, 17, 18, 19, 20, 21, 22, 23, 24] [] mixed (by kernel_rfl) fun _ _ _ => ?_
    iterate 2 refine pV ?_
    refine sV (rIdxT rfl rfl rfl (by omega) (by omega) (by simp; omega)) ?_
    refine sV (rFld rfl rfl) ?_
    refine sV (rLdG1 rfl rfl (by omega)) ?_
    iterate 2 refine pV ?_
    refine sV (rIdxT rfl rfl rfl (by omega) (by omega) (by simp; omega)) ?_
    refine sV (rFld rfl rfl) ?_
    refine sV (rLdG1 rfl rfl (by omega)) ?_
    iterate 2 refine pV ?_
    refine stT rfl rfl rfl (by first | exact decide_eq_false (by first | exact fun h => h hs | (simp; exact hs)) | (rw [decide_eq_false (by first | exact fun h => h hs | (simp; exact hs))]; rfl) | (simp; exact hs) | simp [hs]) rfl rfl (rMove rfl rfl) ?_
    refine stT rfl rfl rfl (by first | exact decide_eq_false (by first | exact fun h => h hs | (simp; exact hs)) | (rw [decide_eq_false (by first | exact fun h => h hs | (simp; exact hs))]; rfl) | (simp; exact hs) | simp [hs]) rfl rfl (rMove rfl rfl) ?_
    refine stT rfl rfl rfl (by first | exact decide_eq_false (by first | exact fun h => h hs | (simp; exact hs)) | (rw [decide_eq_false (by first | exact fun h => h hs | (simp; exact hs))]; rfl) | (simp; exact hs) | simp [hs]) rfl rfl (rIdxT rfl rfl rfl (by omega) (by omega) (by simp; omega)) ?_
    refine stT rfl rfl rfl (by first | exact decide_eq_false (by first | exact fun h => h hs | (simp; exact hs)) | (rw [decide_eq_false (by first | exact fun h => h hs | (simp; exact hs))]; rfl) | (simp; exact hs) | simp [hs]) rfl rfl (rFld rfl rfl) ?_
    refine stT rfl rfl rfl (by first | exact decide_eq_false (by first | exact fun h => h hs | (simp; exact hs)) | (rw [decide_eq_false (by first | exact fun h => h hs | (simp; exact hs))]; rfl) | (simp; exact hs) | simp [hs]) rfl rfl (rLdG0 rfl rfl (by omega)) ?_
    refine stT rfl rfl rfl (by first | exact decide_eq_false (by first | exact fun h => h hs | (simp; exact hs)) | (rw [decide_eq_false (by first | exact fun h => h hs | (simp; exact hs))]; rfl) | (simp; exact hs) | simp [hs]) rfl rfl (rMove rfl rfl) ?_
    refine stT rfl rfl rfl (by first | exact decide_eq_false (by first | exact fun h => h hs | (simp; exact hs)) | (rw [decide_eq_false (by first | exact fun h => h hs | (simp; exact hs))]; rfl) | (simp; exact hs) | simp [hs]) rfl rfl (rMove rfl rfl) ?_
    refine stT rfl rfl rfl (by first | exact decide_eq_false (by first | exact fun h => h hs | (simp; exact hs)) | (rw [decide_eq_false (by first | exact fun h => h hs | (simp; exact hs))]; rfl) | (simp; exact hs) | simp [hs]) rfl rfl (rIdxT rfl rfl rfl (by omega) (by omega) (by simp; omega)) ?_
    refine stT rfl rfl rfl (by first | exact decide_eq_false (by first | exact fun h => h hs | (simp; exact hs)) | (rw [decide_eq_false (by first | exact fun h => h hs | (simp; exact hs))]; rfl) | (simp; exact hs) | simp [hs]) rfl rfl (rFld rfl rfl) ?_
    refine stT rfl rfl rfl (by first | exact decide_eq_false (by first | exact fun h => h hs | (simp; exact hs)) | (rw [decide_eq_false (by first | exact fun h => h hs | (simp; exact hs))]; rfl) | (simp; exact hs) | simp [hs]) rfl rfl (rLdG0 rfl rfl (by omega)) ?_
    refine efT rfl rfl rfl (by first | exact decide_eq_false (by first | exact fun h => h hs | (simp; exact hs)) | (rw [decide_eq_false (by first | exact fun h => h hs | (simp; exact hs))]; rfl) | (simp; exact hs) | simp [hs]) (eCallV rfl rfl rfl (ref_SameInts6 (fs.getD k.toNat facD).r.A _ (fs.getD k.toNat facD).r.cap (fs.getD k.toNat facD).r.xs rfl (gs.getD k.toNat facD).r.A _ (gs.getD k.toNat facD).r.cap (gs.getD k.toNat facD).r.xs rfl (hx9 _ (getD_mem hj1 facD))) ⟨rfl, rfl, trivial⟩ ?_)
    refine stT rfl rfl rfl (by first | exact decide_eq_false (by first | exact fun h => h hs | (simp; exact hs)) | (rw [decide_eq_false (by first | exact fun h => h hs | (simp; exact hs))]; rfl) | (simp; exact hs) | simp [hs]) rfl rfl (rNotB rfl rfl) ?_
    refine sV (rPick0 rfl rfl (by first | exact decide_eq_false (by first | exact fun h => h hs | (simp; exact hs)) | (rw [decide_eq_false (by first | exact fun h => h hs | (simp; exact hs))]; rfl) | (simp; exact hs) | simp [hs]) rfl) ?_
    refine tC rfl (fun h6 => ?_) (fun h6 => ?_)
    ·try simp only [zbA] at h6
     refine tS ?_
     refine tR fun _ _ _ => ?_
     refine pV ?_
     have hne : ¬ fpr fs = fpr gs := fun h => by
      have h1 := fpr_at h k.toNat
      first
       | exact hs h1.2
       | (rw [h1.1] at h6; simp at h6)
     exact tr_ret ⟨trivial, _, _, rfl, ⟨by rw [decide_eq_false hne], rfl⟩, CSub.nil _, trivial⟩
    ·try simp only [zbA] at h6
     refine tK ?_
     refine tR fun _ _ _ => ?_
     refine pV ?_
     refine sV (rAdd rfl rfl rfl (by omega) (by omega)) ?_
     refine pV ?_
     refine ⟨k + 1, ⟨rfl, rfl, rfl, trivial⟩, by first | exact cs _ _ | exact CSub.refl _, ?_⟩
     refine ⟨⟨⟨by omega, by omega⟩, fun j hj => ?_⟩, by omega⟩
     by_cases e : (j : Int) < k
     ·exact hall j e
     ·rw [show j = k.toNat by omega]; exact ⟨by simpa using h6, hs⟩
   ·refine tr_draw [0, 1, 2, 3, 4, 5, 6, 7, 8, 9, 10, 11, 12, 13, 14, 15, 16, 17, 18, 19, 20, 21, 22, 23, 24] [] mixed (by kernel_rfl) fun _ _ _ => ?_
    iterate 2 refine pV ?_
    refine sV (rIdxT rfl rfl rfl (by omega) (by omega) (by simp; omega)) ?_
    refine sV (rFld rfl rfl) ?_
    refine sV (rLdG1 rfl rfl (by omega)) ?_
    iterate 2 refine pV ?_
    refine sV (rIdxT rfl rfl rfl (by omega) (by omega) (by simp; omega)) ?_
    refine sV (rFld rfl rfl) ?_
    refine sV (rLdG1 rfl rfl (by omega)) ?_
    iterate 2 refine pV ?_
    refine skF rfl rfl (by first | exact decide_eq_true (by first | exact hs | simpa using hs) | (rw [decide_eq_true (by first | exact hs | simpa using hs)]; rfl) | (simp; exact hs) | simp [hs]) rfl rfl ?_
    refine skF rfl rfl (by first | exact decide_eq_true (by first | exact hs | simpa using hs) | (rw [decide_eq_true (by first | exact hs | simpa using hs)]; rfl) | (simp; exact hs) | simp [hs]) rfl rfl ?_
    refine skF rfl rfl (by first | exact decide_eq_true (by first | exact hs | simpa using hs) | (rw [decide_eq_true (by first | exact hs | simpa using hs)]; rfl) | (simp; exact hs) | simp [hs]) rfl rfl ?_
    refine skF rfl rfl (by first | exact decide_eq_true (by first | exact hs | simpa using hs) | (rw [decide_eq_true (by first | exact hs | simpa using hs)]; rfl) | (simp; exact hs) | simp [hs]) rfl rfl ?_
    refine skF rfl rfl (by first | exact decide_eq_true (by first | exact hs | simpa using hs) | (rw [decide_eq_true (by first | exact hs | simpa using hs)]; rfl) | (simp; exact hs) | simp [hs]) rfl rfl ?_
    refine skF rfl rfl (by first | exact decide_eq_true (by first | exact hs | simpa using hs) | (rw [decide_eq_true (by first | exact hs | simpa using hs)]; rfl) | (simp; exact hs) | simp [hs]) rfl rfl ?_
    refine skF rfl rfl (by first | exact decide_eq_true (by first | exact hs | simpa using hs) | (rw [decide_eq_true (by first | exact hs | simpa using hs)]; rfl) | (simp; exact hs) | simp [hs]) rfl rfl ?_
    refine skF rfl rfl (by first | exact decide_eq_true (by first | exact hs | simpa using hs) | (rw [decide_eq_true (by first | exact hs | simpa using hs)]; rfl) | (simp; exact hs) | simp [hs]) rfl rfl ?_
    refine skF rfl rfl (by first | exact decide_eq_true (by first | exact hs | simpa using hs) | (rw [decide_eq_true (by first | exact hs | simpa using hs)]; rfl) | (simp; exact hs) | simp [hs]) rfl rfl ?_
    refine skF rfl rfl (by first | exact decide_eq_true (by first | exact hs | simpa using hs) | (rw [decide_eq_true (by first | exact hs | simpa using hs)]; rfl) | (simp; exact hs) | simp [hs]) rfl rfl ?_
    refine skF rfl rfl (by first | exact decide_eq_true (by first | exact hs | simpa using hs) | (rw [decide_eq_true (by first | exact hs | simpa using hs)]; rfl) | (simp; exact hs) | simp [hs]) rfl rfl ?_
    refine skF rfl rfl (by first | exact decide_eq_true (by first | exact hs | simpa using hs) | (rw [decide_eq_true (by first | exact hs | simpa using hs)]; rfl) | (simp; exact hs) | simp [hs]) rfl rfl ?_
    refine sV (rPick1 rfl rfl (by first | exact decide_eq_true (by first | exact hs | simpa using hs) | (rw [decide_eq_true (by first | exact hs | simpa using hs)]; rfl) | (simp; exact hs) | simp [hs]) rfl) ?_
    refine tC rfl (fun h6 => ?_) (fun h6 => ?_)
    ·try simp only [zbA] at h6
     refine tS ?_
     refine tR fun _ _ _ => ?_
     refine pV ?_
     have hne : ¬ fpr fs = fpr gs := fun h => by
      have h1 := fpr_at h k.toNat
      first
       | exact hs h1.2
       | (rw [h1.1] at h6; simp at h6)
     exact tr_ret ⟨trivial, _, _, rfl, ⟨by rw [decide_eq_false hne], rfl⟩, CSub.nil _, trivial⟩
    ·try simp only [zbA] at h6
     refine tK ?_
     refine tR fun _ _ _ => ?_
     refine pV ?_
     refine sV (rAdd rfl rfl rfl (by omega) (by omega)) ?_
     refine pV ?_
     refine ⟨k + 1, ⟨rfl, rfl, rfl, trivial⟩, by first | exact cs _ _ | exact CSub.refl _, ?_⟩
     exact absurd h6 (by simp)
  ·try simp only [zbA] at h4
   refine tE ?_
   refine tS ?_
   refine tR fun _ _ _ => ?_
   refine pV ?_
   have heq : fpr fs = fpr gs := fpr_eq (by omega) fun j hj => hall j (by omega)
   exact tr_ret ⟨trivial, _, _, rfl, ⟨by rw [decide_eq_true heq], rfl⟩, CSub.nil _, trivial⟩
end Go.Proofs.YtbhoeaijpnjgdaaGreat

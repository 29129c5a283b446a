/-
  CYCLICDIVIDES, PART 9 OF 10. One sentence: the texts behind the law CyclicDivides, put together.
  Conditions: each theorem's own, written out in it.
-/
import Derived.Test.YtdkahdehodopoaaGreatK8
set_option linter.unusedSimpArgs false
set_option linter.unusedVariables false
set_option linter.unusedSectionVars false
set_option maxRecDepth 100000
namespace Go.Proofs.YtdkahdehodopoaaGreat
open Go.RowKit
theorem law16_small_ent : Enters Tryz.prog 6 := enters_of Tryz.func6 (by kernel_rfl) (by kernel_rfl)
theorem law16_small (p m : Int) (A : Option Addr) (c : Nat) (mod : List Int) [hF : IsF p m mod] (hl9 : mod.length ≤ 17592186044415) (n : Int) :
  Pure Tryz.prog 6 #[.agg #[.int .i64 p, .int .i64 m, .slice A mod.length c], .int .i64 n] [ro A (ints mod)] (isV (.bool (decide (1 ≤ n ∧ n ≤ 20 ∧ (pw p m).toNat ^ (n.toNat / 2) ≤ 1100)))) := by
 have hord := hF.ord
 have hq2 := hF.q2
 have hq9 : pw p m ≤ 256 := by have := hF.out.1.1.q; omega
 refine pure_of (args := [.agg #[.int .i64 p, .int .i64 m, .slice A mod.length c], .int .i64 n]) 25 Tryz.func6 rfl rfl rfl law16_small_ent ⟨id, trivial⟩ (fun w0 => ?_)
 refine tS ?_
 refine tR fun _ _ _ => ?_
 refine eV (eBox rfl rfl rfl rfl rfl (fun p0 => ?_))
 refine pV ?_
 refine tS ?_
 refine tS ?_
 refine tR fun _ _ _ => ?_
 iterate 3 refine pV ?_
 refine stg rfl rfl rfl rfl rfl (fun hb => by (have hq := hb; try simp only [zbA] at hq); exact rMove rfl rfl) ?_
 refine stg rfl rfl rfl rfl rfl (fun hb => by (have hq := hb; try simp only [zbA] at hq); exact rGtr rfl (evg rfl hb) rfl) ?_
 refine sV (rOrB rfl rfl rfl rfl) ?_
 refine tC rfl (fun h1 => ?_) (fun h1 => ?_)
 ·try simp only [zbA] at h1
  refine tS ?_
  refine tR fun _ _ _ => ?_
  refine pV ?_
  exact tr_ret ⟨trivial, _, _, rfl, ⟨by rw [decide_eq_false fun h => by omega], rfl⟩, CSub.nil _, trivial⟩
 ·try simp only [zbA] at h1
  refine tK ?_
  refine tS ?_
  refine tR fun _ _ _ => ?_
  refine pV ?_
  refine tS ?_
  refine tS ?_
  refine tR fun _ _ _ => ?_
  refine pV ?_
  refine tB ?_
  refine tr_loop2 (fun (i : Int) (s : Int) => [(5, .int .i64 s), (6, .int .i64 i), (1, .int .i64 n), (2, .pointer (some p0))]) (fun (i : Int) (s : Int) => [blk p0 24 [.int .i64 p, .int .i64 m, .slice A mod.length c], ro A (ints mod)]) (fun (i : Int) (s : Int) => (0 ≤ i ∧ i ≤ n / 2) ∧ (1 ≤ s ∧ s ≤ 1100) ∧ s = (((pw p m).toNat ^ i.toNat : Nat) : Int)) (fun (i : Int) (s : Int) => (n / 2 - i).toNat) (0) (1) ⟨rfl, rfl, rfl, rfl, trivial⟩ (by first | exact cs _ _ | exact CSub.refl _) (⟨⟨by omega, by omega⟩, ⟨by omega, by omega⟩, by rw [show Int.toNat 0 = 0 from rfl, Nat.pow_zero]; rfl⟩) (fun i s hI => ?_)
  obtain ⟨⟨hi0, hi1⟩, ⟨hs0, hs1⟩, hs⟩ := hI
  refine tS ?_
  refine tS ?_
  refine tR fun _ _ _ => ?_
  iterate 2 refine pV ?_
  refine sV (rQuo rfl rfl rfl (by omega) (by omega)) ?_
  refine pV ?_
  refine tC rfl (fun h5 => ?_) (fun h5 => ?_)
  ·try simp only [zbA] at h5
   refine tK ?_
   refine tS ?_
   refine tB ?_
   refine tS ?_
   refine tR fun _ _ _ => ?_
   refine pV ?_
   refine sV (rLdS rfl rfl rfl) ?_
   refine eV (eCallV rfl rfl rfl (ref_order p m A c mod) ⟨rfl, trivial⟩ ?_)
   rw [hord]
   have hm1 : s * pw p m ≤ 1100 * 256 := Int.mul_le_mul (by omega) (by omega) (by omega) (by omega)
   have hm0 : 0 < s * pw p m := Int.mul_pos (by omega) (by omega)
   have hsq : s * pw p m = (((pw p m).toNat ^ (i.toNat + 1) : Nat) : Int) := by rw [Nat.pow_succ, Int.natCast_mul, ← hs]; congr 1; omega
   refine sV (rMul rfl rfl rfl (by omega) (by omega)) ?_
   refine pV ?_
   refine tS ?_
   refine tR fun _ _ _ => ?_
   iterate 2 refine pV ?_
   refine tC rfl (fun h8 => ?_) (fun h8 => ?_)
   ·try simp only [zbA] at h8
    refine tS ?_
    refine tR fun _ _ _ => ?_
    refine pV ?_
    have hpm := Nat.pow_le_pow_right (show 0 < (pw p m).toNat by omega) (show i.toNat + 1 ≤ n.toNat / 2 by omega)
    exact tr_ret ⟨trivial, _, _, rfl, ⟨by rw [decide_eq_false fun h => by omega], rfl⟩, CSub.nil _, trivial⟩
   ·try simp only [zbA] at h8
    refine tK ?_
    refine tR fun _ _ _ => ?_
    refine pV ?_
    refine sV (rAdd rfl rfl rfl (by omega) (by omega)) ?_
    refine pV ?_
    refine ⟨i + 1, s * pw p m, ⟨rfl, rfl, rfl, rfl, trivial⟩, by first | exact cs _ _ | exact CSub.refl _, ?_⟩
    exact ⟨⟨⟨by omega, by omega⟩, ⟨by omega, by omega⟩, by rw [show (i + 1).toNat = i.toNat + 1 by omega]; exact hsq⟩, by omega⟩
  ·try simp only [zbA] at h5
   refine tE ?_
   refine tS ?_
   refine tR fun _ _ _ => ?_
   refine pV ?_
   have hie : i.toNat = n.toNat / 2 := by omega
   rw [hie] at hs
   exact tr_ret ⟨trivial, _, _, rfl, ⟨by rw [decide_eq_true ⟨by omega, by omega, by omega⟩], rfl⟩, CSub.nil _, trivial⟩
theorem law_CyclicDivides_E_ent : Enters Tryz.prog 3 := enters_of Tryz.func3 (by kernel_rfl) (by kernel_rfl)
theorem law_CyclicDivides_E (p m : Int) (A : Option Addr) (c : Nat) (mod : List Int) (hl9 : mod.length ≤ 17592186044415) (w : Int) (Aa : Option Addr) (n ca : Nat) (rs : List RowM) (hn : n = rs.length) (h9 : rs.length ≤ 17592186044415) (h8 : ∀ r ∈ rs, r.xs.length ≤ 17592186044415) (he : codC p m mod w rs ≠ 0) :
  Pure Tryz.prog 3 #[.agg #[.int .i64 p, .int .i64 m, .slice A mod.length c, .int .i64 w, .slice Aa n ca]] [ro A (ints mod), ro Aa (hdrs rs), rowsR rs] (isV (.bool true)) := by
 refine pure_of (args := [.agg #[.int .i64 p, .int .i64 m, .slice A mod.length c, .int .i64 w, .slice Aa n ca]]) 89 Tryz.func3 rfl rfl rfl law_CyclicDivides_E_ent ⟨id, id, id, trivial⟩ (fun w0 => ?_)
 refine tS ?_
 refine tR fun _ _ _ => ?_
 refine eV (eBox rfl rfl rfl rfl rfl (fun p0 => ?_))
 refine pV ?_
 refine tS ?_
 refine tS ?_
 refine tR fun _ _ _ => ?_
 refine sV (rLdS rfl rfl rfl) ?_
 refine eV (eCall0 rfl rfl rfl (law16_fewC p m A c mod hl9 w Aa n ca rs hn h9 h8) ⟨rfl, trivial⟩ ?_)
 rintro _ ⟨b, rfl, hb⟩
 refine sV (rNotB rfl rfl) ?_
 refine pV ?_
 refine stg rfl rfl rfl rfl rfl (fun hb => by (have hq := hb; try simp only [zbA] at hq); exact rLdS rfl rfl rfl) ?_
 refine efg rfl rfl rfl rfl rfl (fun hb => by (have hq := hb; try simp only [zbA] at hq); exact eCallV rfl rfl rfl (ref_CCheck p m A c mod hl9 w Aa n ca rs hn h9 h8) ⟨(evg rfl hb), trivial⟩ ⟨rfl, rfl⟩) ?_
 refine stg rfl rfl rfl rfl rfl (fun hb => by (have hq := hb; try simp only [zbA] at hq); exact rNeq rfl (evg rfl hb) rfl) ?_
 refine sV (rOrB rfl rfl rfl rfl) ?_
 refine pV ?_
 refine skF rfl rfl (by simp [he]) rfl rfl ?_
 refine skF rfl rfl (by simp [he]) rfl rfl ?_
 refine skF rfl rfl (by simp [he]) rfl rfl ?_
 refine skF rfl rfl (by simp [he]) rfl rfl ?_
 refine skF rfl rfl (by simp [he]) rfl rfl ?_
 refine skF rfl rfl (by simp [he]) rfl rfl ?_
 refine sV (rPick1 rfl rfl (by simp [he]) rfl) ?_
 refine tC rfl (fun h1 => ?_) (fun h1 => ?_)
 ·try simp only [zbA] at h1
  refine tS ?_
  refine tR fun _ _ _ => ?_
  refine pV ?_
  exact tr_ret ⟨trivial, _, _, rfl, ⟨rfl, rfl⟩, CSub.nil _, trivial⟩
 ·try simp only [zbA] at h1
  exact absurd h1 (by simp [he]) --done
noncomputable def cwB (p m : Int) (mod : List Int) [hF : IsF p m mod] (n : Nat) (rs : List RowM) (d : Po (El p m mod)) : Bool := @decide (∀ u, Vc.SpL (vsR rs : List (Vc (El p m mod))) u ↔ CyW n d u) (Classical.propDecidable _)
theorem cwB_iff {p m : Int} {mod : List Int} [hF : IsF p m mod] {n : Nat} {rs : List RowM} {d : Po (El p m mod)} : cwB p m mod n rs d = true ↔ ∀ u, Vc.SpL (vsR rs : List (Vc (El p m mod))) u ↔ CyW n d u := by
 unfold cwB; exact @decide_eq_true_iff _ (Classical.propDecidable _)
theorem cw_count {p m : Int} {mod : List Int} [hF : IsF p m mod] {n : Nat} (hn : 1 ≤ n) {rs : List RowM} (hg : Gd (pw p m) n rs) {ds : List (Po (El p m mod))} (hnd : ds.Nodup) (hds : ∀ d, d ∈ ds ↔ Po.lead d = 1 ∧ d ∣ xn1 n) :
  (closB p m mod n rs = true → (ds.filter (cwB p m mod n rs)).length = 1) ∧ (¬ closB p m mod n rs = true → (ds.filter (cwB p m mod n rs)).length = 0) := by
 constructor
 ·intro hc
  have h1 : genP p m mod n (xss rs) ∈ ds := (hds _).2 ⟨genP_monic hn _, genP_dvd n _⟩
  have h2 := flt_ex (P := cwB p m mod n rs) h1 (cwB_iff.2 (clos_words hn hg hc))
  have h3 := flt_one (P := cwB p m mod n rs) hnd fun x hx y hy a b => by
   have e1 := gen_words hn hg ((hds x).1 hx).2 ((hds x).1 hx).1 (cwB_iff.1 a)
   have e2 := gen_words hn hg ((hds y).1 hy).2 ((hds y).1 hy).1 (cwB_iff.1 b)
   exact e1.symm.trans e2
  omega
 ·intro hc
  exact flt_no fun x hx a => hc (clos_of hn hg ((hds x).1 hx).2 (cwB_iff.1 a))
theorem gcd_dvdO {p m : Int} {mod : List Int} [hF : IsF p m mod] {d f : Po (El p m mod)} (h1 : Po.lead d = 1) (h : d ∣ f) : Po.gcd d f = d := by
 have hG := Po.gcd_is d f
 have h0 := lead1_ne h1
 exact Po.monic_eq hG.left (hG.great (Po.dvd_refl d) h) (Po.gcd_monic (.inl h0)) h1
theorem il_allIn {p m : Int} {mod : List Int} [hF : IsF p m mod] (d : Po (El p m mod)) : AllIn (pw p m) (il d) := allIn_of_get fun j hj => by
 rw [il_getD]; exact (Po.cf d j).2
theorem law_CyclicDivides_G_ent : Enters Tryz.prog 3 := enters_of Tryz.func3 (by kernel_rfl) (by kernel_rfl)
theorem law_CyclicDivides_G (p m : Int) (A : Option Addr) (c : Nat) (mod : List Int) [hF : IsF p m mod] (w : Int) (Aa : Option Addr) (n ca : Nat) (rs : List RowM) (hn : n = rs.length) (h9 : rs.length ≤ 256) (hc : CodeOk p m mod w rs) (hl9 : mod.length ≤ 17592186044415) (h9b : rs.length ≤ 17592186044415) (h8 : ∀ r ∈ rs, r.xs.length ≤ 17592186044415)  :
  Pure Tryz.prog 3 #[.agg #[.int .i64 p, .int .i64 m, .slice A mod.length c, .int .i64 w, .slice Aa n ca]] [ro A (ints mod), ro Aa (hdrs rs), rowsR rs] (isV (.bool true)) := by
 have hck := hc.zero
 have h9c := h9
 have hw1 := hc.n1
 have hw64 := hc.n64
 have hgd := hc.good
 refine pure_of (args := [.agg #[.int .i64 p, .int .i64 m, .slice A mod.length c, .int .i64 w, .slice Aa n ca]]) 89 Tryz.func3 rfl rfl rfl law_CyclicDivides_G_ent ⟨id, id, id, trivial⟩ (fun w0 => ?_)
 refine tS ?_
 refine tR fun _ _ _ => ?_
 refine eV (eBox rfl rfl rfl rfl rfl (fun p0 => ?_))
 refine pV ?_
 refine tS ?_
 refine tS ?_
 refine tR fun _ _ _ => ?_
 refine sV (rLdS rfl rfl rfl) ?_
 refine eV (eCall0 rfl rfl rfl (law16_fewC p m A c mod hl9 w Aa n ca rs hn h9b h8) ⟨rfl, trivial⟩ ?_)
 rintro _ ⟨b, rfl, hb⟩
 refine sV (rNotB rfl rfl) ?_
 refine pV ?_
 refine stg rfl rfl rfl rfl rfl (fun hb => by (have hq := hb; try simp only [zbA] at hq); exact rLdS rfl rfl rfl) ?_
 refine efg rfl rfl rfl rfl rfl (fun hb => by (have hq := hb; try simp only [zbA] at hq); exact eCallV rfl rfl rfl (ref_CCheck p m A c mod hl9 w Aa n ca rs hn h9b h8) ⟨(evg rfl hb), trivial⟩ ⟨rfl, rfl⟩) ?_
 refine stg rfl rfl rfl rfl rfl (fun hb => by (have hq := hb; try simp only [zbA] at hq); exact rNeq rfl (evg rfl hb) rfl) ?_
 refine sV (rOrB rfl rfl rfl rfl) ?_
 refine pV ?_
 refine stg rfl rfl rfl rfl rfl (fun hb => by (have hq := hb; try simp only [zbA] at hq); exact rFld rfl rfl) ?_
 refine stg rfl rfl rfl rfl rfl (fun hb => by (have hq := hb; try simp only [zbA] at hq); exact rLdSF rfl (evg rfl hb)) ?_
 refine stg rfl rfl rfl rfl rfl (fun hb => by (have hq := hb; try simp only [zbA] at hq); exact rFld rfl rfl) ?_
 refine stg rfl rfl rfl rfl rfl (fun hb => by (have hq := hb; try simp only [zbA] at hq); exact rLdF rfl (evg rfl hb) rfl) ?_
 refine efg rfl rfl rfl rfl rfl (fun hb => by (have hq := hb; try simp only [zbA] at hq); exact eCallV rfl rfl rfl (law16_small p m A c mod hl9 w) ⟨(evg rfl hb), (evg rfl hb), trivial⟩ ⟨rfl, rfl⟩) ?_
 refine stg rfl rfl rfl rfl rfl (fun hb => by (have hq := hb; try simp only [zbA] at hq); exact rNotB rfl (evg rfl hb)) ?_
 refine sV (rOrB rfl rfl rfl rfl) ?_
 refine tC rfl (fun h1 => ?_) (fun h1 => ?_)
 ·try simp only [zbA] at h1
  refine tS ?_
  refine tR fun _ _ _ => ?_
  refine pV ?_
  exact tr_ret ⟨trivial, _, _, rfl, ⟨rfl, rfl⟩, CSub.nil _, trivial⟩
 ·try simp only [zbA] at h1
  obtain ⟨⟨hbt, _⟩, hsm⟩ := h1
  obtain ⟨hs1, hs2, hs3⟩ : 1 ≤ w ∧ w ≤ 20 ∧ (pw p m).toNat ^ (w.toNat / 2) ≤ 1100 := by simpa using hsm
  have hfew : 4 * (pw p m).toNat ^ (w.toNat / 2) ≤ 65536 := by omega
  refine tK ?_
  refine tS ?_
  refine tR fun _ _ _ => ?_
  refine sV (rLdS rfl rfl rfl) ?_
  refine eV (eCallV rfl rfl rfl (cyc_Is _ _ _ _ _ w Aa n ca rs hn h9 hc) ⟨rfl, trivial⟩ ?_)
  iterate 5 refine pV ?_
  refine tS ?_
  refine tR fun _ _ _ => ?_
  refine sV (rFld rfl rfl) ?_
  refine sV (rLdSF rfl rfl) ?_
  refine sV (rFld rfl rfl) ?_
  refine sV (rLdF rfl rfl rfl) ?_
  refine eV (eCall2 rfl rfl rfl (cyc_All p m A c mod hl9 w hw1 hw64 hfew) ⟨rfl, rfl, trivial⟩ ?_)
  rintro _ _ _ ⟨B4, c4, qs, ds, rfl, rfl, rfl, hqx, hnd, hds, hdl⟩
  iterate 5 refine pV ?_
  refine tS ?_
  refine tS ?_
  have hql : qs.length = ds.length := by
   have := congrArg List.length hqx
   rwa [xss_length, List.length_map] at this
  have h1d : (1 : Po (El p m mod)) ∈ ds := (hds 1).2 ⟨lead_oneO, ⟨xn1 w.toNat, by rw [Rg.one_mul]⟩⟩
  have hd1 := List.length_pos_of_mem h1d
  refine tR fun _ _ _ => ?_
  iterate 3 refine pV ?_
  refine stT rfl rfl rfl (by simp) rfl rfl (rMove rfl rfl) ?_
  refine stT rfl rfl rfl (by simp) rfl rfl (rNeq rfl rfl rfl) ?_
  refine sV (rPick0 rfl rfl (by simp) rfl) ?_
  refine pV ?_
  refine stT rfl rfl rfl (by simp) rfl rfl (rMove rfl rfl) ?_
  refine stT rfl rfl rfl (by simp) rfl rfl (rLen rfl rfl) ?_
  refine stT rfl rfl rfl (by simp) rfl rfl (rLss rfl rfl rfl) ?_
  refine sV (rPick0 rfl rfl (by simp) rfl) ?_
  refine tC rfl (fun h5 => ?_) (fun h5 => ?_)
  ·try simp only [zbA] at h5
   exact absurd h5 (by simp; omega) --done
  ·try simp only [zbA] at h5
   refine tK ?_
   refine tS ?_
   refine tR fun _ _ _ => ?_
   refine pV ?_
   refine tS ?_
   refine tS ?_
   refine tR fun _ _ _ => ?_
   refine pV ?_
   refine tB ?_
   refine tr_loop2 (fun (i : Int) (ct : Nat) => [(7, .int .i64 ct), (8, .int .i64 i), (1, .pointer (some p0)), (3, .bool (closB p m mod w.toNat rs)), (5, .slice B4 qs.length c4)]) (fun (i : Int) (ct : Nat) => [ow B4 22 c4 (hdrs qs), rowsX qs, blk p0 27 [.int .i64 p, .int .i64 m, .slice A mod.length c, .int .i64 w, .slice Aa n ca], ro A (ints mod), ro Aa (hdrs rs), rowsR rs]) (fun (i : Int) (ct : Nat) => (0 ≤ i ∧ i ≤ qs.length) ∧ ct = ((ds.take i.toNat).filter (cwB p m mod w.toNat rs)).length) (fun (i : Int) (ct : Nat) => ((qs.length : Int) - i).toNat) (0) (0) ⟨rfl, rfl, rfl, rfl, rfl, trivial⟩ (by first | exact cs _ _ | exact CSub.refl _) (⟨⟨by omega, by omega⟩, rfl⟩) (fun i ct hI => ?_)
   obtain ⟨⟨hi0, hi1⟩, hct⟩ := hI
   have hctl := List.length_filter_le (cwB p m mod w.toNat rs) (ds.take i.toNat)
   rw [← hct, List.length_take] at hctl
   refine tS ?_
   refine tS ?_
   refine tR fun _ _ _ => ?_
   iterate 2 refine pV ?_
   refine sV (rLen rfl rfl) ?_
   refine pV ?_
   refine tC rfl (fun h9 => ?_) (fun h9 => ?_)
   ·try simp only [zbA] at h9
    refine tK ?_
    refine tS ?_
    refine tB ?_
    have hiq : i.toNat < qs.length := by omega
    haveI : InB i.toNat qs.length := ⟨hiq⟩
    haveI : RowIn (qs.getD i.toNat rowD) qs := ⟨getD_mem hiq rowD⟩
    obtain ⟨_, hix, hdm⟩ := xss_ilget hqx hiq
    obtain ⟨hdl1, hdd⟩ := (hds _).1 hdm
    have hdn := Po.dvd_len hdd (xn1_ne (p := p) (m := m) (mod := mod) (n := w.toNat) (by omega))
    rw [xn1_len (by omega)] at hdn
    have hil := il_length (ds.getD i.toNat 0)
    have hixl := congrArg List.length hix
    have hin : AllIn (pw p m) (qs.getD i.toNat rowD).xs := by rw [hix]; exact il_allIn _
    refine tr_mid (fun (q : Addr × ({z : (Option Addr × Nat) × Option Addr × List RowM // CdOf p m mod w.toNat z.2.2 (CyW w.toNat (Po.gcd (pol (qs.getD i.toNat rowD).xs : Po (El p m mod)) (xn1 w.toNat)))})) => match q with | (p9, z) => [(1, .pointer (some p0)), (3, .bool (closB p m mod w.toNat rs)), (5, .slice B4 qs.length c4), (7, .int .i64 ct), (8, .int .i64 i), (9, .pointer (some p9)), (10, .int .i64 0)]) (fun (q : Addr × ({z : (Option Addr × Nat) × Option Addr × List RowM // CdOf p m mod w.toNat z.2.2 (CyW w.toNat (Po.gcd (pol (qs.getD i.toNat rowD).xs : Po (El p m mod)) (xn1 w.toNat)))})) => match q with | (p9, z) => [blk p9 27 [.int .i64 p, .int .i64 m, .slice z.1.1.1 mod.length z.1.1.2, .int .i64 w, .slice z.1.2.1 z.1.2.2.length z.1.2.2.length], ow z.1.1.1 3 z.1.1.2 (ints mod), rx z.1.2.1 (hdrs z.1.2.2), rowsCh 3 z.1.2.2, ow B4 22 c4 (hdrs qs), rowsX qs, blk p0 27 [.int .i64 p, .int .i64 m, .slice A mod.length c, .int .i64 w, .slice Aa n ca], ro A (ints mod), ro Aa (hdrs rs), rowsR rs]) ?_ ?_
    ·refine tr_planT [] (.one 0 0 (.one 0 1 (.one 0 2 (.one 0 3 (.one 0 4 (.one 0 5 (.one 0 6 (.one 0 7 (.two 8 (.one 0 9 (.one 0 10 (.one 2 11 (.one 0 12 (.one 1 13 (.one 0 14 .nil)))))) 12 (.one 0 8 (.one 0 9 (.one 0 10 (.one 2 11 (.one 1 13 (.one 0 14 .nil))))))))))))))) mixed (by kernel_rfl) fun _ _ _ => ?_
     refine sV (rFld rfl rfl) ?_
     refine sV (rLdSF rfl rfl) ?_
     refine sV (rFld rfl rfl) ?_
     refine sV (rLdF rfl rfl rfl) ?_
     iterate 2 refine pV ?_
     refine sV (rIdxR rfl rfl rfl (by omega) (by omega) (by omega)) ?_
     refine sV (rLdR rfl rfl (by omega)) ?_
     refine ⟨?_, ?_⟩
     ·refine eV (eCall3 rfl rfl rfl (cyc_New p m A c mod w hw1 hw64 (qs.getD i.toNat rowD).A _ (qs.getD i.toNat rowD).cap (qs.getD i.toNat rowD).xs rfl (by omega) hin) ⟨rfl, rfl, rfl, trivial⟩ ?_)
      rintro _ _ _ _ ⟨Bm, cm, B9, r3, rfl, rfl, rfl, rfl, hC⟩
      iterate 2 refine pV ?_
      refine stF rfl rfl rfl rfl (cs _ _) (rExt rfl rfl rfl) ?_
      refine eV (eAlloc rfl rfl rfl (fun p11a => ?_))
      refine eV (eStS rfl rfl rfl rfl rfl rfl ?_)
      refine ⟨cs _ _, ?_⟩
      refine pV ?_
      exact ⟨rfl, (p11a, ⟨((Bm, cm), B9, r3), hC⟩), ⟨rfl, rfl, rfl, rfl, rfl, rfl, rfl, trivial⟩, by first | exact cs _ _ | exact CSub.refl _⟩
     ·refine eV (eAlloc rfl rfl rfl (fun p11a => ?_))
      refine eV (eCall3 rfl rfl rfl (cyc_New p m A c mod w hw1 hw64 (qs.getD i.toNat rowD).A _ (qs.getD i.toNat rowD).cap (qs.getD i.toNat rowD).xs rfl (by omega) hin) ⟨rfl, rfl, rfl, trivial⟩ ?_)
      rintro _ _ _ _ ⟨Bm, cm, B9, r3, rfl, rfl, rfl, rfl, hC⟩
      iterate 2 refine pV ?_
      refine stF rfl rfl rfl rfl (cs _ _) (rExt rfl rfl rfl) ?_
      refine eV (eStS rfl rfl rfl rfl rfl rfl ?_)
      refine ⟨cs _ _, ?_⟩
      refine pV ?_
      exact ⟨rfl, (p11a, ⟨((Bm, cm), B9, r3), hC⟩), ⟨rfl, rfl, rfl, rfl, rfl, rfl, rfl, trivial⟩, by first | exact cs _ _ | exact CSub.refl _⟩
    ·rintro ⟨p9, z⟩
     refine tS ?_
     refine tS ?_
     obtain ⟨⟨⟨Bm, cm⟩, B9, r3⟩, hC⟩ := z
     dsimp only at hC ⊢
     refine tR fun _ _ _ => ?_
     iterate 2 refine pV ?_
     refine tC rfl (fun h12 => ?_) (fun h12 => ?_)
     ·try simp only [zbA] at h12
      first | exact absurd trivial h12 | exact absurd rfl h12 | omega | (exact absurd h12 (by simp)) --done
     ·try simp only [zbA] at h12
      refine tK ?_
      refine tS ?_
      have hC2 : CdOf p m mod w.toNat r3 (CyW w.toNat (ds.getD i.toNat 0)) := by
       rw [hix, pol_il, gcd_dvdO hdl1 hdd] at hC; exact hC
      have hst : (ds.take (i + 1).toNat).filter (cwB p m mod w.toNat rs) = (ds.take i.toNat).filter (cwB p m mod w.toNat rs) ++ if cwB p m mod w.toNat rs (ds.getD i.toNat 0) = true then [(ds.getD i.toNat 0)] else [] := by
       rw [show (i + 1).toNat = i.toNat + 1 by omega, take_getD (show i.toNat < ds.length by omega) 0, List.filter_append]
       congr 1
       by_cases e : cwB p m mod w.toNat rs (ds.getD i.toNat 0) = true
       ·rw [if_pos e, List.filter_cons_of_pos e, List.filter_nil]
       ·rw [if_neg e, List.filter_cons_of_neg e, List.filter_nil]
      have hsm3 : cwB p m mod w.toNat rs (ds.getD i.toNat 0) = true ↔ xss rs = xss r3 := by
       rw [cwB_iff]
       constructor
       ·exact fun h => (hc.cd.iff h).uniq hC2
       ·exact fun h u => (hC2.xss h.symm).span u
      refine tR fun _ _ _ => ?_
      refine sV (rLdS rfl rfl rfl) ?_
      refine sV (rLdS rfl rfl rfl) ?_
      refine eV (eCallV rfl rfl rfl (ref_CSame p m A c mod hl9 w Aa n ca rs hn (by omega) (hgd.h8 (by omega)) _ _ _ _ _ _ _ _ _ r3 rfl) ⟨rfl, rfl, trivial⟩ ?_)
      refine tC rfl (fun h14 => ?_) (fun h14 => ?_)
      ·try simp only [zbA] at h14
       refine tR fun _ _ _ => ?_
       refine pV ?_
       refine sV (rAdd rfl rfl rfl (by omega) (by omega)) ?_
       refine pV ?_
       refine tR fun _ _ _ => ?_
       refine pV ?_
       refine sV (rAdd rfl rfl rfl (by omega) (by omega)) ?_
       refine pV ?_
       refine ⟨i + 1, ct + 1, ⟨rfl, rfl, rfl, rfl, rfl, trivial⟩, by first | exact cs _ _ | exact CSub.refl _, ?_⟩
       have hx : xss rs = xss r3 := by simpa using h14
       exact ⟨⟨⟨by omega, by omega⟩, by rw [hst, if_pos (hsm3.2 hx), List.length_append, ← hct]; rfl⟩, by omega⟩
      ·try simp only [zbA] at h14
       refine tK ?_
       refine tR fun _ _ _ => ?_
       refine pV ?_
       refine sV (rAdd rfl rfl rfl (by omega) (by omega)) ?_
       refine pV ?_
       refine ⟨i + 1, ct, ⟨rfl, rfl, rfl, rfl, rfl, trivial⟩, by first | exact cs _ _ | exact CSub.refl _, ?_⟩
       have hx : ¬ xss rs = xss r3 := by simpa using h14
       exact ⟨⟨⟨by omega, by omega⟩, by rw [hst, if_neg fun h => hx (hsm3.1 h), List.append_nil, ← hct]⟩, by omega⟩
   ·try simp only [zbA] at h9
    refine tE ?_
    refine tS ?_
    have hie : i.toNat = ds.length := by omega
    rw [hie, List.take_length] at hct
    have hfin := cw_count (by omega) hgd hnd hds
    rw [← hct] at hfin
    by_cases hcl : closB p m mod w.toNat rs = true
    ·refine tR fun _ _ _ => ?_
     iterate 3 refine pV ?_
     refine stT rfl rfl rfl (by simp [hfin.1 hcl]) rfl rfl (rMove rfl rfl) ?_
     refine sV (rPick1 rfl rfl (by simp [hfin.1 hcl]) rfl) ?_
     refine pV ?_
     refine skF rfl rfl (by simp [hfin.1 hcl, hcl]) rfl rfl ?_
     refine skF rfl rfl (by simp [hfin.1 hcl, hcl]) rfl rfl ?_
     refine skF rfl rfl (by simp [hfin.1 hcl, hcl]) rfl rfl ?_
     refine skU rfl rfl rfl rfl ?_
     refine skU rfl rfl rfl rfl ?_
     refine skF rfl rfl (by simp [hfin.1 hcl, hcl]) rfl rfl ?_
     refine sV (rPick1 rfl rfl (by simp [hfin.1 hcl, hcl]) rfl) ?_
     refine pV ?_
     exact tr_ret ⟨trivial, _, _, rfl, ⟨by simp [hcl], rfl⟩, CSub.nil _, trivial⟩
    ·refine tR fun _ _ _ => ?_
     iterate 3 refine pV ?_
     refine skF rfl rfl (by simp [hfin.2 hcl]) rfl rfl ?_
     refine sV (rPick0 rfl rfl (by simp [hfin.2 hcl]) rfl) ?_
     refine pV ?_
     refine stT rfl rfl rfl (by simp) rfl rfl (rMove rfl rfl) ?_
     refine stT rfl rfl rfl (by simp) rfl rfl (rEql rfl rfl rfl) ?_
     refine stT rfl rfl rfl (by simp) rfl rfl (rMove rfl rfl) ?_
     refine stT rfl rfl rfl (by simp [hfin.2 hcl]) rfl rfl (rMove rfl rfl) ?_
     refine stT rfl rfl rfl (by simp [hfin.2 hcl]) rfl rfl (rNotB rfl rfl) ?_
     refine stT rfl rfl rfl (by simp) rfl rfl (rPick1 rfl rfl (by simp [hfin.2 hcl]) rfl) ?_
     refine sV (rPick0 rfl rfl (by simp) rfl) ?_
     refine pV ?_
     exact tr_ret ⟨trivial, _, _, rfl, ⟨by simp [hcl], rfl⟩, CSub.nil _, trivial⟩
theorem law_CyclicDivides (p m : Int) (A : Option Addr) (c : Nat) (mod : List Int) (hl9 : mod.length ≤ 17592186044415) (w : Int) (Aa : Option Addr) (n ca : Nat) (rs : List RowM) (hn : n = rs.length) (h9 : rs.length ≤ 17592186044415) (h8 : ∀ r ∈ rs, r.xs.length ≤ 17592186044415) : Pure Tryz.prog 3 #[.agg #[.int .i64 p, .int .i64 m, .slice A mod.length c, .int .i64 w, .slice Aa n ca]] [ro A (ints mod), ro Aa (hdrs rs), rowsR rs] (isV (.bool true)) := by
 by_cases he : codC p m mod w rs = 0
 ·obtain ⟨hF0, hc⟩ := codC_zero he
  haveI hF : IsF p m mod := ⟨hF0⟩
  have hl := hc.len
  exact law_CyclicDivides_G p m A c mod w Aa n ca rs hn (by omega) hc hl9 h9 h8
 ·exact law_CyclicDivides_E p m A c mod hl9 w Aa n ca rs hn h9 h8 he
end Go.Proofs.YtdkahdehodopoaaGreat

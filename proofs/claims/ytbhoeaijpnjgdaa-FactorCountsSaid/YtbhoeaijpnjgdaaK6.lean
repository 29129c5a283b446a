/-
  FACTORCOUNTS, PART 6 OF 7. One sentence: the texts behind the law FactorCounts, put together.
  Conditions: each theorem's own, written out in it.
-/
import Derived.Test.YtbhoeaijpnjgdaaK5
set_option linter.unusedSimpArgs false
set_option linter.unusedVariables false
set_option linter.unusedSectionVars false
set_option maxRecDepth 100000
namespace Go.Proofs.Ytbhoeaijpnjgdaa
open Go.RowKit
theorem dsm_stepY {N : Nat → Nat} {n d : Int} (hn : 0 ≤ n) (hd : 1 ≤ d) : dsm N n.toNat d.toNat = dsm N n.toNat (d - 1).toNat + if n % d = 0 then d.toNat * N d.toNat else 0 := by
 obtain ⟨k, hk⟩ : ∃ k : Nat, d = (k : Int) + 1 := ⟨(d - 1).toNat, by omega⟩
 obtain ⟨j, hj⟩ : ∃ j : Nat, n = (j : Int) := ⟨n.toNat, by omega⟩
 subst hk hj
 rw [show ((k : Int) + 1 - 1).toNat = k by omega, show ((k : Int) + 1).toNat = k + 1 by omega, Int.toNat_natCast, dsm]
 have e : ((j : Int) % ((k : Int) + 1) = 0) ↔ (j % (k + 1) = 0) := by
  rw [show ((k : Int) + 1) = ((k + 1 : Nat) : Int) by omega, ← Int.natCast_emod]; omega
 by_cases h : j % (k + 1) = 0
 ·rw [if_pos h, if_pos (e.2 h)]
 ·rw [if_neg h, if_neg fun g => h (e.1 g)]
theorem fac_CountE_ent : Enters Try.prog 28 := enters_of Try.func28 (by kernel_rfl) (by kernel_rfl)
theorem fac_CountE (g : GfM) (n : Int) (hb : n < 1 ∨ 256 < n) :
  Pure Try.prog 28 #[.pointer (some g.p), .int .i64 n] [gfR g] (isV (.tuple #[.slice none 0 0, .int .i64 6])) := by
 refine pure_of (args := [.pointer (some g.p), .int .i64 n]) 84 Try.func28 rfl rfl rfl fac_CountE_ent ⟨id, trivial⟩ (fun w0 => ?_)
 refine tS ?_
 refine tR fun _ _ _ => ?_
 iterate 2 refine pV ?_
 refine tS ?_
 refine tS ?_
 refine tR fun _ _ _ => ?_
 iterate 3 refine pV ?_
 refine stg rfl rfl rfl rfl rfl (fun hb => by (have hq := hb; try simp only [zbA] at hq); exact rMove rfl rfl) ?_
 refine stg rfl rfl rfl rfl rfl (fun hb => by (have hq := hb; try simp only [zbA] at hq); exact rGtr rfl (evg rfl hb) rfl) ?_
 refine sV (rOrB rfl rfl rfl rfl) ?_
 refine tC rfl (fun h1 => ?_) (fun h1 => ?_)
 ·try simp only [zbA] at h1
  refine tS ?_
  refine tR fun _ _ _ => ?_
  iterate 2 refine pV ?_
  exact tr_ret ⟨trivial, _, _, rfl, ⟨rfl, rfl⟩, CSub.nil _, trivial⟩
 ·try simp only [zbA] at h1
  first | omega | (simp at h1; omega) --done
theorem ref_CountE_ent : Enters Try.prog 29 := enters_of Try.func29 (by kernel_rfl) (by kernel_rfl)
theorem ref_CountE (p m : Int) (A : Option Addr) (c : Nat) (mod : List Int) [hF : IsF p m mod] (n : Int) (hb : n < 1 ∨ 256 < n) :
  Pure Try.prog 29 #[.agg #[.int .i64 p, .int .i64 m, .slice A mod.length c], .int .i64 n] [ro A (ints mod)] (isV (.tuple #[.slice none 0 0, .int .i64 6])) := by
 refine pure_of (args := [.agg #[.int .i64 p, .int .i64 m, .slice A mod.length c], .int .i64 n]) 59 Try.func29 rfl rfl rfl ref_CountE_ent ⟨id, trivial⟩ (fun w0 => ?_)
 refine tS ?_
 refine tR fun _ _ _ => ?_
 refine eV (eBox rfl rfl rfl rfl rfl (fun p0 => ?_))
 iterate 2 refine pV ?_
 refine tS ?_
 refine tS ?_
 refine tR fun _ _ _ => ?_
 iterate 3 refine pV ?_
 refine stg rfl rfl rfl rfl rfl (fun hb => by (have hq := hb; try simp only [zbA] at hq); exact rMove rfl rfl) ?_
 refine stg rfl rfl rfl rfl rfl (fun hb => by (have hq := hb; try simp only [zbA] at hq); exact rGtr rfl (evg rfl hb) rfl) ?_
 refine sV (rOrB rfl rfl rfl rfl) ?_
 refine tC rfl (fun h1 => ?_) (fun h1 => ?_)
 ·try simp only [zbA] at h1
  refine tS ?_
  refine tR fun _ _ _ => ?_
  iterate 2 refine pV ?_
  exact tr_ret ⟨trivial, _, _, rfl, ⟨rfl, rfl⟩, CSub.nil _, trivial⟩
 ·try simp only [zbA] at h1
  first | omega | (simp at h1; omega) --done
theorem law_FactorCounts_no_ent : Enters Try.prog 6 := enters_of Try.func6 (by kernel_rfl) (by kernel_rfl)
theorem law_FactorCounts_no (p m : Int) (A : Option Addr) (c : Nat) (mod : List Int) (hl9 : mod.length ≤ 17592186044415) (n : Int) (hF : ¬ FldR p m mod) :
  Pure Try.prog 6 #[.agg #[.int .i64 p, .int .i64 m, .slice A mod.length c], .int .i64 n] [ro A (ints mod)] (isV (.bool true)) := by
 refine pure_of (args := [.agg #[.int .i64 p, .int .i64 m, .slice A mod.length c], .int .i64 n]) 96 Try.func6 rfl rfl rfl law_FactorCounts_no_ent ⟨id, trivial⟩ (fun w0 => ?_)
 refine tS ?_
 refine tR fun _ _ _ => ?_
 refine eV (eBox rfl rfl rfl rfl rfl (fun p0 => ?_))
 refine pV ?_
 refine tS ?_
 refine tR fun _ _ _ => ?_
 refine sV (rLdS rfl rfl rfl) ?_
 refine eV (eCallV rfl rfl rfl (law_open_no _ _ _ _ _ (by omega) hF) ⟨rfl, trivial⟩ ?_)
 iterate 7 refine pV ?_
 refine tS ?_
 refine tS ?_
 refine tR fun _ _ _ => ?_
 refine pV ?_
 refine tC rfl (fun h2 => ?_) (fun h2 => ?_)
 ·try simp only [zbA] at h2
  refine tS ?_
  refine tR fun _ _ _ => ?_
  iterate 2 refine pV ?_
  exact tr_ret ⟨trivial, _, _, rfl, ⟨rfl, rfl⟩, CSub.nil _, trivial⟩
 ·try simp only [zbA] at h2
  cases h2 --done
theorem law_FactorCounts_E_ent : Enters Try.prog 6 := enters_of Try.func6 (by kernel_rfl) (by kernel_rfl)
theorem law_FactorCounts_E (p m : Int) (A : Option Addr) (c : Nat) (mod : List Int) [hF : IsF p m mod] (hl9 : mod.length ≤ 17592186044415) (n : Int) (hb : n < 1 ∨ 256 < n) :
  Pure Try.prog 6 #[.agg #[.int .i64 p, .int .i64 m, .slice A mod.length c], .int .i64 n] [ro A (ints mod)] (isV (.bool true)) := by
 refine pure_of (args := [.agg #[.int .i64 p, .int .i64 m, .slice A mod.length c], .int .i64 n]) 96 Try.func6 rfl rfl rfl law_FactorCounts_E_ent ⟨id, trivial⟩ (fun w0 => ?_)
 refine tS ?_
 refine tR fun _ _ _ => ?_
 refine eV (eBox rfl rfl rfl rfl rfl (fun p0 => ?_))
 refine pV ?_
 refine tS ?_
 refine tR fun _ _ _ => ?_
 refine sV (rLdS rfl rfl rfl) ?_
 refine eV (eCall1 rfl rfl rfl (law_open_ok _ _ _ _ _ (by omega) hF.out) ⟨rfl, trivial⟩ ?_)
 rintro _ _ ⟨g, rfl, rfl, hg⟩
 iterate 7 refine pV ?_
 refine tS ?_
 refine tS ?_
 refine tR fun _ _ _ => ?_
 refine pV ?_
 refine tC rfl (fun h2 => ?_) (fun h2 => ?_)
 ·try simp only [zbA] at h2
  cases h2 --done
 ·try simp only [zbA] at h2
  refine tK ?_
  refine tS ?_
  refine tR fun _ _ _ => ?_
  iterate 2 refine pV ?_
  refine eV (eCallV rfl rfl rfl (fac_CountE g n hb) ⟨rfl, rfl, trivial⟩ ?_)
  iterate 5 refine pV ?_
  refine tS ?_
  refine tR fun _ _ _ => ?_
  refine sV (rLdS rfl rfl rfl) ?_
  refine pV ?_
  refine eV (eCallV rfl rfl rfl (ref_CountE p m A c mod n hb) ⟨rfl, rfl, trivial⟩ ?_)
  iterate 5 refine pV ?_
  refine tS ?_
  refine tS ?_
  refine tr_nilW 105 ?_
  refine tR fun _ _ _ => ?_
  iterate 4 refine pV ?_
  refine stg rfl rfl rfl rfl rfl (fun hb => by (have hq := hb; try simp only [zbA] at hq); exact rMove rfl rfl) ?_
  refine stg rfl rfl rfl rfl rfl (fun hb => by (have hq := hb; try simp only [zbA] at hq); exact rMove rfl rfl) ?_
  refine efg rfl rfl rfl rfl rfl (fun hb => by (have hq := hb; try simp only [zbA] at hq); exact eCallV rfl rfl rfl (ref_NSameT none 0 0 [] rfl lm_nil (by simp) none 0) ⟨(evg rfl hb), (evg rfl hb), trivial⟩ ⟨rfl, rfl⟩) ?_
  refine stg rfl rfl rfl rfl rfl (fun hb => by (have hq := hb; try simp only [zbA] at hq); exact rNotB rfl (evg rfl hb)) ?_
  refine sV (rOrB rfl rfl rfl rfl) ?_
  refine tC rfl (fun h6 => ?_) (fun h6 => ?_)
  ·try simp only [zbA] at h6
   simp at h6 --done
  ·try simp only [zbA] at h6
   refine tK ?_
   refine tS ?_
   refine tS ?_
   refine tR fun _ _ _ => ?_
   iterate 2 refine pV ?_
   refine tC rfl (fun h8 => ?_) (fun h8 => ?_)
   ·try simp only [zbA] at h8
    simp at h8 --done
   ·try simp only [zbA] at h8
    refine tK ?_
    refine tS ?_
    refine tR fun _ _ _ => ?_
    refine pV ?_
    refine eV (eCallV rfl rfl rfl (fac_CountE g 0 (by omega)) ⟨rfl, rfl, trivial⟩ ?_)
    iterate 5 refine pV ?_
    refine tS ?_
    refine tR fun _ _ _ => ?_
    iterate 3 refine pV ?_
    exact tr_ret ⟨trivial, _, _, rfl, ⟨by simp, rfl⟩, CSub.nil _, trivial⟩
theorem law_FactorCounts_G_ent : Enters Try.prog 6 := enters_of Try.func6 (by kernel_rfl) (by kernel_rfl)
theorem law_FactorCounts_G (p m : Int) (A : Option Addr) (c : Nat) (mod : List Int) [hF : IsF p m mod] (hl9 : mod.length ≤ 17592186044415) (n : Int) (hn1 : 1 ≤ n) (hn9 : n ≤ 256) :
  Pure Try.prog 6 #[.agg #[.int .i64 p, .int .i64 m, .slice A mod.length c], .int .i64 n] [ro A (ints mod)] (isV (.bool true)) := by
 have hord := hF.ord
 have hq2 := hF.q2
 have hq9 : pw p m ≤ 256 := by have := hF.out.1.1.q; omega
 have hC := irN_cnt (p := p) (m := m) (mod := mod)
 have hpl := pow_len (a := (pw p m).toNat) (e := n.toNat) (by omega) (by omega)
 have hle : ∀ j, j ≤ n.toNat → dsm (irN p m mod) n.toNat j ≤ (pw p m).toNat ^ n.toNat := fun j hj => cnt_le hC (by omega) hj
 have hall := hC n.toNat (by omega)
 have hnN := cnt_N hC (n := n.toNat) (by omega)
 have hNn : (irN p m mod) n.toNat ≤ n.toNat * (irN p m mod) n.toNat := Nat.le_mul_of_pos_left _ (by omega)
 have hNl : (lmb ((irN p m mod) n.toNat)).length ≤ 65 := Nat.le_trans (lmb_mono (by omega)) hpl
 have hql := lmb_len (n := (pw p m).toNat) (k := 1) (by omega)
 refine pure_of (args := [.agg #[.int .i64 p, .int .i64 m, .slice A mod.length c], .int .i64 n]) 96 Try.func6 rfl rfl rfl law_FactorCounts_G_ent ⟨id, trivial⟩ (fun w0 => ?_)
 refine tS ?_
 refine tR fun _ _ _ => ?_
 refine eV (eBox rfl rfl rfl rfl rfl (fun p0 => ?_))
 refine pV ?_
 refine tS ?_
 refine tR fun _ _ _ => ?_
 refine sV (rLdS rfl rfl rfl) ?_
 refine eV (eCall1 rfl rfl rfl (law_open_ok _ _ _ _ _ (by omega) hF.out) ⟨rfl, trivial⟩ ?_)
 rintro _ _ ⟨g, rfl, rfl, hg⟩
 iterate 7 refine pV ?_
 refine tS ?_
 refine tS ?_
 refine tR fun _ _ _ => ?_
 refine pV ?_
 refine tC rfl (fun h2 => ?_) (fun h2 => ?_)
 ·try simp only [zbA] at h2
  cases h2 --done
 ·try simp only [zbA] at h2
  refine tK ?_
  refine tS ?_
  refine tR fun _ _ _ => ?_
  iterate 2 refine pV ?_
  refine eV (eCall1 rfl rfl rfl (fac_Count g hg (irN p m mod) irN_cnt n (by omega) (by omega)) ⟨rfl, rfl, trivial⟩ ?_)
  rintro _ _ ⟨B4, rfl, rfl⟩
  iterate 5 refine pV ?_
  refine tS ?_
  refine tR fun _ _ _ => ?_
  refine sV (rLdS rfl rfl rfl) ?_
  refine pV ?_
  refine eV (eCall1 rfl rfl rfl (ref_Count p m A c mod (irN p m mod) irN_cnt n.toNat n (by omega) (by omega) (by omega)) ⟨rfl, rfl, trivial⟩ ?_)
  rintro _ _ ⟨B5, c5, rfl, rfl, hc5⟩
  iterate 5 refine pV ?_
  refine tS ?_
  refine tS ?_
  refine tR fun _ _ _ => ?_
  iterate 4 refine pV ?_
  refine stg rfl rfl rfl rfl rfl (fun hb => by (have hq := hb; try simp only [zbA] at hq); exact rMove rfl rfl) ?_
  refine stg rfl rfl rfl rfl rfl (fun hb => by (have hq := hb; try simp only [zbA] at hq); exact rMove rfl rfl) ?_
  refine efg rfl rfl rfl rfl rfl (fun hb => by (have hq := hb; try simp only [zbA] at hq); exact eCallV rfl rfl rfl (ref_NSameT B4 _ _ (lmb ((irN p m mod) n.toNat)) rfl (lmb_lm _) (by omega) B5 c5) ⟨(evg rfl hb), (evg rfl hb), trivial⟩ ⟨rfl, rfl⟩) ?_
  refine stg rfl rfl rfl rfl rfl (fun hb => by (have hq := hb; try simp only [zbA] at hq); exact rNotB rfl (evg rfl hb)) ?_
  refine sV (rOrB rfl rfl rfl rfl) ?_
  refine tC rfl (fun h6 => ?_) (fun h6 => ?_)
  ·try simp only [zbA] at h6
   simp at h6 --done
  ·try simp only [zbA] at h6
   refine tK ?_
   refine tS ?_
   refine tS ?_
   refine tR fun _ _ _ => ?_
   iterate 2 refine pV ?_
   refine tC rfl (fun h8 => ?_) (fun h8 => ?_)
   ·try simp only [zbA] at h8
    refine tS ?_
    refine tR fun _ _ _ => ?_
    refine eV (eLit0W rfl rfl rfl  (fun A9 => ?_))
    refine pV ?_
    refine tS ?_
    refine tS ?_
    refine tR fun _ _ _ => ?_
    refine pV ?_
    refine tB ?_
    refine tr_loop4 (fun (d : Int) (B : Option Addr) (cb : Nat) (o : List Int) => [(13, .int .i64 d), (12, .slice B o.length cb), (1, .int .i64 n), (2, .pointer (some p0)), (5, .pointer (some g.p))]) (fun (d : Int) (B : Option Addr) (cb : Nat) (o : List Int) => [ow B 105 cb (w32 o), gfN g, blk p0 24 [.int .i64 p, .int .i64 m, .slice A mod.length c], ro A (ints mod)]) (fun (d : Int) (B : Option Addr) (cb : Nat) (o : List Int) => (1 ≤ d ∧ d ≤ n + 1) ∧ o = lmb (dsm (irN p m mod) n.toNat (d - 1).toNat)) (fun (d : Int) (B : Option Addr) (cb : Nat) (o : List Int) => (n + 1 - d).toNat) (1) (A9) (0) ([]) ⟨rfl, rfl, rfl, rfl, rfl, trivial⟩ (by first | exact cs _ _ | exact CSub.refl _) (⟨⟨by omega, by omega⟩, lmb_zero.symm⟩) (fun d B cb o hI => ?_)
    obtain ⟨⟨hd0, hd9⟩, ho⟩ := hI
    refine tS ?_
    refine tS ?_
    refine tR fun _ _ _ => ?_
    iterate 3 refine pV ?_
    refine tC rfl (fun h11 => ?_) (fun h11 => ?_)
    ·try simp only [zbA] at h11
     refine tK ?_
     refine tS ?_
     refine tB ?_
     refine tS ?_
     refine tS ?_
     have hst := dsm_stepY (N := (irN p m mod)) (n := n) (d := d) (by omega) hd0
     refine tR fun _ _ _ => ?_
     iterate 2 refine pV ?_
     refine sV (rRem rfl rfl rfl (by omega) (by omega)) ?_
     refine pV ?_
     refine tC rfl (fun h13 => ?_) (fun h13 => ?_)
     ·try simp only [zbA] at h13
      refine tE ?_
      refine tR fun _ _ _ => ?_
      refine pV ?_
      refine sV (rAdd rfl rfl rfl (by omega) (by omega)) ?_
      refine pV ?_
      refine ⟨d + 1, B, cb, o, ⟨rfl, rfl, rfl, rfl, rfl, trivial⟩, by first | exact cs _ _ | exact CSub.refl _, ?_⟩
      rw [if_neg (by omega)] at hst
      exact ⟨⟨⟨by omega, by omega⟩, by rw [show (d + 1 - 1) = d by omega, hst, ho]; rfl⟩, by omega⟩
     ·try simp only [zbA] at h13
      refine tK ?_
      refine tS ?_
      have hdl := lmb_len (n := d.toNat) (k := 1) (by omega)
      have hdN := cnt_N hC (n := d.toNat) (by omega)
      have hNd : (irN p m mod) d.toNat ≤ d.toNat * (irN p m mod) d.toNat := Nat.le_mul_of_pos_left _ (by omega)
      have hpd := Nat.pow_le_pow_right (show 0 < (pw p m).toNat by omega) (show d.toNat ≤ n.toNat by omega)
      have hNdl : (lmb ((irN p m mod) d.toNat)).length ≤ 65 := Nat.le_trans (lmb_mono (by omega)) hpl
      have hmd : (lmb (vN (lmb d.toNat) * vN (lmb ((irN p m mod) d.toNat))).toNat).length ≤ 65 := by rw [lmb_mul]; exact Nat.le_trans (lmb_mono (by omega)) hpl
      have hlo : Lm o := by rw [ho]; exact lmb_lm _
      have hol : o.length ≤ 65 := by rw [ho]; exact Nat.le_trans (lmb_mono (hle _ (by omega))) hpl
      refine tR fun _ _ _ => ?_
      iterate 2 refine pV ?_
      refine eV (eCall1 rfl rfl rfl (fac_Count g hg (irN p m mod) irN_cnt d (by omega) (by omega)) ⟨rfl, rfl, trivial⟩ ?_)
      rintro _ _ ⟨B14, rfl, rfl⟩
      iterate 5 refine pV ?_
      refine tS ?_
      refine tS ?_
      refine tR fun _ _ _ => ?_
      iterate 2 refine pV ?_
      refine tC rfl (fun h15 => ?_) (fun h15 => ?_)
      ·try simp only [zbA] at h15
       first | exact absurd trivial h15 | exact absurd rfl h15 | omega | (exact absurd h15 (by simp)) --done
      ·try simp only [zbA] at h15
       refine tK ?_
       refine tR fun _ _ _ => ?_
       iterate 2 refine pV ?_
       refine sV (rConv rfl undI undU64 rfl (IntWalk.u64_in _ ⟨by omega, by omega⟩)) ?_
       refine eV (eCall1 rfl rfl rfl (ref_NOf d (by omega) (by omega)) ⟨rfl, trivial⟩ ?_)
       rintro _ _ ⟨B17, c17, rfl, rfl, hc17⟩
       refine pV ?_
       refine eV (eCall1 rfl rfl rfl (ref_NMul B17 _ c17 (lmb d.toNat) rfl (lmb_lm _) (by omega) B14 _ _ (lmb ((irN p m mod) d.toNat)) rfl (lmb_lm _) (by omega)) ⟨rfl, rfl, trivial⟩ ?_)
       rintro _ _ ⟨B17a, c17a, rfl, rfl, hc17a⟩
       refine eV (eCall1 rfl rfl rfl (ref_NAdd B _ cb o rfl hlo (by omega) B17a _ c17a (lmb (vN (lmb d.toNat) * vN (lmb ((irN p m mod) d.toNat))).toNat) rfl (lmb_lm _) (by omega)) ⟨rfl, rfl, trivial⟩ ?_)
       rintro _ _ ⟨B17b, c17b, rfl, rfl, hc17b⟩
       refine pV ?_
       refine tR fun _ _ _ => ?_
       refine pV ?_
       refine sV (rAdd rfl rfl rfl (by omega) (by omega)) ?_
       refine pV ?_
       refine ⟨d + 1, B17b, c17b, lmb (vN o + vN (lmb (vN (lmb d.toNat) * vN (lmb ((irN p m mod) d.toNat))).toNat)).toNat, ⟨rfl, rfl, rfl, rfl, rfl, trivial⟩, by first | exact cs _ _ | exact CSub.refl _, ?_⟩
       rw [if_pos (by omega)] at hst
       exact ⟨⟨⟨by omega, by omega⟩, by rw [show (d + 1 - 1) = d by omega, hst, ho, lmb_add, lmb_mul]⟩, by omega⟩
    ·try simp only [zbA] at h11
     refine tE ?_
     refine tS ?_
     refine tR fun _ _ _ => ?_
     refine sV (rLdS rfl rfl rfl) ?_
     refine eV (eCallV rfl rfl rfl (ref_order p m A c mod) ⟨rfl, trivial⟩ ?_)
     rw [hord]
     refine sV (rConv rfl undI undU64 rfl (IntWalk.u64_in _ ⟨by omega, by omega⟩)) ?_
     refine eV (eCall1 rfl rfl rfl (ref_NOf (pw p m) (by omega) (by omega)) ⟨rfl, trivial⟩ ?_)
     rintro _ _ ⟨B18a, c18a, rfl, rfl, hc18a⟩
     refine pV ?_
     refine eV (eCall1 rfl rfl rfl (ref_NPowI B18a _ c18a (lmb (pw p m).toNat) rfl (lmb_lm _) (by omega) hc18a n (by omega) (by omega) (by rw [vN_lmb]; omega)) ⟨rfl, rfl, trivial⟩ ?_)
     rintro _ _ ⟨B18b, c18b, rfl, rfl, hc18b⟩
     iterate 5 refine pV ?_
     rw [show (vN (lmb (pw p m).toNat)).toNat = (pw p m).toNat by rw [vN_lmb]; rfl] at hc18b ⊢
     have hoe : o = lmb ((pw p m).toNat ^ n.toNat) := by rw [ho, show (d - 1).toNat = n.toNat by omega, hall]
     subst hoe
     refine tS ?_
     refine tR fun _ _ _ => ?_
     iterate 2 refine pV ?_
     refine eV (eCallV rfl rfl rfl (ref_NSameT B _ cb (lmb ((pw p m).toNat ^ n.toNat)) rfl (lmb_lm _) (by omega) B18b c18b) ⟨rfl, rfl, trivial⟩ ?_)
     refine sV (rNotB rfl rfl) ?_
     refine tC rfl (fun h19 => ?_) (fun h19 => ?_)
     ·try simp only [zbA] at h19
      simp at h19 --done
     ·try simp only [zbA] at h19
      refine tK ?_
      refine tS ?_
      refine tR fun _ _ _ => ?_
      refine pV ?_
      refine eV (eCallV rfl rfl rfl (fac_CountE g 0 (by omega)) ⟨rfl, rfl, trivial⟩ ?_)
      iterate 5 refine pV ?_
      refine tS ?_
      refine tR fun _ _ _ => ?_
      iterate 3 refine pV ?_
      exact tr_ret ⟨trivial, _, _, rfl, ⟨by simp, rfl⟩, CSub.nil _, trivial⟩
   ·try simp only [zbA] at h8
    first | exact absurd trivial h8 | exact absurd rfl h8 | omega | (exact absurd h8 (by simp)) --done
theorem law_FactorCounts (p m : Int) (A : Option Addr) (c : Nat) (mod : List Int) (hl9 : mod.length ≤ 17592186044415) (n : Int) : Pure Try.prog 6 #[.agg #[.int .i64 p, .int .i64 m, .slice A mod.length c], .int .i64 n] [ro A (ints mod)] (isV (.bool true)) := by
 by_cases hF0 : FldR p m mod
 ·haveI hF : IsF p m mod := ⟨hF0⟩
  by_cases hb : n < 1 ∨ 256 < n
  ·exact law_FactorCounts_E p m A c mod hl9 n hb
  ·exact law_FactorCounts_G p m A c mod hl9 n (by omega) (by omega)
 ·exact law_FactorCounts_no p m A c mod hl9 n hF0
end Go.Proofs.Ytbhoeaijpnjgdaa

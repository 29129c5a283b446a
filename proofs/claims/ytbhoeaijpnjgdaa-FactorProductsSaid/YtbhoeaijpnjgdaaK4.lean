/-
  FACTORPRODUCTS, PART 4 OF 7. One sentence: the texts behind the law FactorProducts, put together.
  Conditions: each theorem's own, written out in it.
-/
import Derived.Deep.SlicePairs
import Derived.Test.YtbhoeaijpnjgdaaK3
set_option linter.unusedSimpArgs false
set_option linter.unusedVariables false
set_option linter.unusedSectionVars false
set_option maxRecDepth 100000
namespace Go.Proofs.Ytbhoeaijpnjgdaa
open Go.RowKit
instance tyPw : AgTy Try.prog 124 2 := agTy_of (by kernel_rfl)
instance tyPw0 : FdTy Try.prog 124 0 0 := ⟨by kernel_rfl⟩
instance tyPw1 : FdTy Try.prog 124 1 1 := ⟨by kernel_rfl⟩
instance zrPw : ZrTy Try.prog 124 [.int .i64 0, .int .i64 0] := ⟨.agg #[.int .i64 0, .int .i64 0], by kernel_rfl, rfl⟩
instance bdPw : BdTy Try.prog 124 [.int .i64 0, .int .i64 0] [(0, 1), (1, 1)] := bdTy_of (z := .agg #[.int .i64 0, .int .i64 0]) (by kernel_rfl) (by kernel_rfl) (by kernel_rfl) rfl
instance ssPw : SsTy Try.prog 118 124 2 := ⟨by kernel_rfl, by kernel_rfl⟩
instance s2Pw : S2Ty Try.prog 118 124 16 := ⟨by kernel_rfl, .agg #[.int .i64 0, .int .i64 0], by kernel_rfl, rfl⟩
instance tySPw : ScTy Try.prog 118 := scTy_of (by kernel_rfl)
def pws (ps : List (Int × Int)) : List (Value × Value) := ps.map fun q => (.int .i64 q.1, .int .i64 q.2)
@[simp] theorem pws_length (ps : List (Int × Int)) : (pws ps).length = ps.length := by simp [pws]
theorem pws_get (ps : List (Int × Int)) (j : Nat) (h : j < ps.length) : (pws ps).getD j prD = (.int .i64 (ps.getD j (0, 0)).1, .int .i64 (ps.getD j (0, 0)).2) := by
 unfold pws
 rw [List.getD_eq_getElem?_getD, List.getElem?_map, List.getD_eq_getElem?_getD, List.getElem?_eq_getElem h]; rfl
def PrL (n : Nat) (ps : List (Int × Int)) : Prop := (∀ q ∈ ps, 2 ≤ q.1) ∧ ∀ r : Nat, (∃ q ∈ ps, q.1 = (r : Int)) ↔ (2 ≤ r ∧ (∀ u, 2 ≤ u → u ∣ r → u = r) ∧ r ∣ n)
theorem prL_one : PrL 1 [] := ⟨fun q h => by simp at h, fun r => ⟨fun ⟨q, h, _⟩ => by simp at h, fun ⟨h, _, h1⟩ => by have := Nat.dvd_one.1 h1; omega⟩⟩
theorem prL_two : PrL 2 [(2, 1)] := ⟨fun q h => by simp at h; subst h; exact Int.le_refl _, fun r => by
 constructor
 ·rintro ⟨q, h, h1⟩
  simp at h; subst h
  have hr : r = 2 := by simp at h1; omega
  subst hr
  refine ⟨Nat.le_refl _, fun u h2 hu => ?_, Nat.dvd_refl _⟩
  have := Nat.le_of_dvd (by omega) hu
  omega
 ·rintro ⟨h, _, h1⟩
  have := Nat.le_of_dvd (by omega) h1
  exact ⟨(2, 1), by simp, by simp; omega⟩⟩
theorem num_least2_ent : Enters Try.prog 145 := enters_of Try.func145 (by kernel_rfl) (by kernel_rfl)
theorem num_least2  :
  Pure Try.prog 145 #[.int .i64 2] [] (isV (.int .i64 2)) := by
 refine pure_of (args := [.int .i64 2]) 46 Try.func145 rfl rfl rfl num_least2_ent trivial (fun w0 => ?_)
 refine tS ?_
 refine tR fun _ _ _ => ?_
 refine pV ?_
 refine tr_scope ?_
 refine tS ?_
 refine tS ?_
 refine tR fun _ _ _ => ?_
 refine eV (eLit3I rfl rfl rfl rfl rfl rfl (fun A1 => ?_))
 refine sV (rLen rfl rfl) ?_
 refine pV ?_
 refine tB ?_
 refine tr_loop1 (fun (k : Int) => [(12, .int .i64 k), (10, .slice A1 3 3), (11, .int .i64 3), (0, .int .i64 2)]) (fun (k : Int) => [ow A1 3 3 (ints [2, 3, 5])]) (fun (k : Int) => k = 0) (fun (k : Int) => 0) (0) ⟨rfl, rfl, rfl, rfl, trivial⟩ (by first | exact cs _ _ | exact CSub.refl _) (rfl) (fun k hI => ?_)
 subst hI
 refine tS ?_
 refine tR fun _ _ _ => ?_
 refine pV ?_
 refine tS ?_
 refine tC rfl (fun h2 => ?_) (fun h2 => ?_)
 ·try simp only [zbA] at h2
  refine tK ?_
  refine tS ?_
  refine tB ?_
  refine tS ?_
  refine tR fun _ _ _ => ?_
  refine sV (rIdxI rfl rfl rfl (by omega) (by omega) (by simp)) ?_
  refine sV (rLdI rfl rfl (by simp)) ?_
  refine pV ?_
  refine tS ?_
  rw [show ([2, 3, 5] : List Int).getD (Int.toNat 0) 0 = 2 from rfl]
  refine tR fun _ _ _ => ?_
  iterate 2 refine pV ?_
  refine sV (rRem rfl rfl rfl (by omega) (by omega)) ?_
  refine pV ?_
  refine tC rfl (fun h4 => ?_) (fun h4 => ?_)
  ·try simp only [zbA] at h4
   refine tS ?_
   refine tR fun _ _ _ => ?_
   iterate 2 refine pV ?_
   exact tr_ret ⟨trivial, _, _, rfl, ⟨rfl, rfl⟩, CSub.nil _, trivial⟩
  ·try simp only [zbA] at h4
   exact absurd (by decide) h4 --done
 ·try simp only [zbA] at h2
  omega --done
theorem num_Factor1_ent : Enters Try.prog 101 := enters_of Try.func101 (by kernel_rfl) (by kernel_rfl)
theorem num_Factor1  :
  Pure Try.prog 101 #[.int .i64 1] [] (one (fun v ch => ∃ B c, v = .tuple #[.slice B ([] : List (Int × Int)).length c, .int .i64 0] ∧ ch = ow2 B 124 c (pws []))) := by
 refine pure_of (args := [.int .i64 1]) 32 Try.func101 rfl rfl rfl num_Factor1_ent trivial (fun w0 => ?_)
 refine tS ?_
 refine tR fun _ _ _ => ?_
 iterate 2 refine pV ?_
 refine tS ?_
 refine tS ?_
 refine tR fun _ _ _ => ?_
 refine pV ?_
 refine eV (eCallV rfl rfl rfl (num_in 1 1) ⟨rfl, rfl, trivial⟩ ?_)
 refine sV (rNotB rfl rfl) ?_
 refine tC rfl (fun h1 => ?_) (fun h1 => ?_)
 ·try simp only [zbA] at h1
  simp at h1 --done
 ·try simp only [zbA] at h1
  refine tK ?_
  refine tS ?_
  refine tR fun _ _ _ => ?_
  refine pV ?_
  refine tS ?_
  refine tB ?_
  refine tr_nil2 124 ?_
  refine tr_loop1 (fun (n : Int) => [(0, .int .i64 n), (4, .slice none 0 0), (2, .slice none 0 0), (3, .int .i64 0)]) (fun (n : Int) => [ow2 none 124 0 []]) (fun (n : Int) => n = 1) (fun (n : Int) => 0) (1) ⟨rfl, rfl, rfl, rfl, trivial⟩ (by first | exact cs _ _ | exact CSub.refl _) (rfl) (fun n hI => ?_)
  subst hI
  refine tS ?_
  refine tS ?_
  refine tR fun _ _ _ => ?_
  iterate 2 refine pV ?_
  refine tC rfl (fun h4 => ?_) (fun h4 => ?_)
  ·try simp only [zbA] at h4
   simp at h4 --done
  ·try simp only [zbA] at h4
   refine tE ?_
   refine tS ?_
   refine tr_chunks [ow2 none 124 0 (pws [])] (CSub.refl _) ?_
   refine tR fun _ _ _ => ?_
   iterate 3 refine pV ?_
   exact tr_ret ⟨trivial, _, _, rfl, ⟨_, rfl, none, 0, rfl, rfl⟩, cs _ _, trivial, trivial⟩
theorem num_Factor2_ent : Enters Try.prog 101 := enters_of Try.func101 (by kernel_rfl) (by kernel_rfl)
theorem num_Factor2  :
  Pure Try.prog 101 #[.int .i64 2] [] (one (fun v ch => ∃ B c, v = .tuple #[.slice B ([(2, 1)] : List (Int × Int)).length c, .int .i64 0] ∧ ch = ow2 B 124 c (pws [(2, 1)]))) := by
 refine pure_of (args := [.int .i64 2]) 32 Try.func101 rfl rfl rfl num_Factor2_ent trivial (fun w0 => ?_)
 refine tS ?_
 refine tR fun _ _ _ => ?_
 iterate 2 refine pV ?_
 refine tS ?_
 refine tS ?_
 refine tR fun _ _ _ => ?_
 refine pV ?_
 refine eV (eCallV rfl rfl rfl (num_in 2 1) ⟨rfl, rfl, trivial⟩ ?_)
 refine sV (rNotB rfl rfl) ?_
 refine tC rfl (fun h1 => ?_) (fun h1 => ?_)
 ·try simp only [zbA] at h1
  simp at h1 --done
 ·try simp only [zbA] at h1
  refine tK ?_
  refine tS ?_
  refine tR fun _ _ _ => ?_
  refine pV ?_
  refine tS ?_
  refine tB ?_
  refine tr_nil2 124 ?_
  refine tr_loop4 (fun (n : Int) (B : Option Addr) (cb : Nat) (ps : List (Int × Int)) => [(0, .int .i64 n), (4, .slice B ps.length cb), (2, .slice none 0 0), (3, .int .i64 0)]) (fun (n : Int) (B : Option Addr) (cb : Nat) (ps : List (Int × Int)) => [ow2 B 124 cb (pws ps)]) (fun (n : Int) (B : Option Addr) (cb : Nat) (ps : List (Int × Int)) => (n = 2 ∧ ps = []) ∨ (n = 1 ∧ ps = [(2, 1)])) (fun (n : Int) (B : Option Addr) (cb : Nat) (ps : List (Int × Int)) => n.toNat) (2) (none) (0) ([]) ⟨rfl, rfl, rfl, rfl, trivial⟩ (by first | exact cs _ _ | exact CSub.refl _) (.inl ⟨rfl, rfl⟩) (fun n B cb ps hI => ?_)
  refine tS ?_
  refine tS ?_
  refine tR fun _ _ _ => ?_
  iterate 2 refine pV ?_
  refine tC rfl (fun h4 => ?_) (fun h4 => ?_)
  ·try simp only [zbA] at h4
   refine tK ?_
   refine tB ?_
   refine tS ?_
   obtain ⟨rfl, rfl⟩ : n = 2 ∧ ps = [] := hI.resolve_right (fun h => by omega)
   refine tR fun _ _ _ => ?_
   refine pV ?_
   refine eV (eCallV rfl rfl rfl (num_least2) ⟨rfl, trivial⟩ ?_)
   refine pV ?_
   refine tS ?_
   refine tR fun _ _ _ => ?_
   refine pV ?_
   refine sV (rBuild rfl rfl) ?_
   refine eV (eAlloc rfl rfl rfl (fun p6 => ?_))
   refine eV (eStS rfl rfl rfl rfl rfl rfl ?_)
   refine tS ?_
   refine tB ?_
   refine tr_loop2 (fun (t : Int) (e : Int) => [(0, .int .i64 t), (4, .slice B ([] : List (Int × Int)).length cb), (5, .int .i64 2), (2, .slice none 0 0), (3, .int .i64 0), (6, .pointer (some p6))]) (fun (t : Int) (e : Int) => [blk p6 124 [.int .i64 2, .int .i64 e], ow2 B 124 cb (pws [])]) (fun (t : Int) (e : Int) => (t = 2 ∧ e = 0) ∨ (t = 1 ∧ e = 1)) (fun (t : Int) (e : Int) => t.toNat) (2) (0) ⟨rfl, rfl, rfl, rfl, rfl, rfl, trivial⟩ (by first | exact cs _ _ | exact CSub.refl _) (.inl ⟨rfl, rfl⟩) (fun t e hI => ?_)
   refine tS ?_
   refine tS ?_
   refine tR fun _ _ _ => ?_
   iterate 2 refine pV ?_
   refine sV (rRem rfl rfl rfl (by omega) (by omega)) ?_
   refine pV ?_
   refine tC rfl (fun h7 => ?_) (fun h7 => ?_)
   ·try simp only [zbA] at h7
    refine tK ?_
    refine tB ?_
    refine tS ?_
    obtain ⟨rfl, rfl⟩ : t = 2 ∧ e = 0 := by omega
    refine tR fun _ _ _ => ?_
    refine sV (rFld rfl rfl) ?_
    refine sV (rLdF rfl rfl rfl) ?_
    refine sV (rAdd rfl rfl rfl (by omega) (by omega)) ?_
    refine sV (rFld rfl rfl) ?_
    refine eV (eStF rfl rfl rfl rfl rfl (by simp) rfl rfl ?_)
    refine tR fun _ _ _ => ?_
    iterate 2 refine pV ?_
    refine sV (rQuo rfl rfl rfl (by omega) (by omega)) ?_
    refine pV ?_
    refine ⟨1, 1, ⟨rfl, rfl, rfl, rfl, rfl, rfl, trivial⟩, by first | exact cs _ _ | exact CSub.refl _, ?_⟩
    exact ⟨.inr ⟨rfl, rfl⟩, by omega⟩
   ·try simp only [zbA] at h7
    refine tE ?_
    obtain ⟨rfl, rfl⟩ : t = 1 ∧ e = 1 := hI.resolve_left (fun h => h7 (by rw [h.1]; rfl))
    refine tR fun _ _ _ => ?_
    refine pV ?_
    refine sV (rLdS rfl rfl rfl) ?_
    refine eV (eLitS rfl rfl rfl rfl (fun p10 => ?_))
    refine eV (eApp2 rfl rfl rfl rfl rfl (by first | rfl | simp | omega) rfl (by first | (simp; done) | (simp; omega)) (by first | (simp; done) | (simp; omega)) (fun A10a c10a => ?_))
    refine pV ?_
    rw [show pws [] ++ [((Value.int .i64 2 : Value), (Value.int .i64 1 : Value))] = pws [(2, 1)] from rfl]
    refine ⟨1, A10a, c10a, [(2, 1)], ⟨rfl, rfl, rfl, rfl, trivial⟩, by first | exact cs _ _ | exact CSub.refl _, ?_⟩
    exact ⟨.inr ⟨rfl, rfl⟩, by omega⟩
  ·try simp only [zbA] at h4
   refine tE ?_
   refine tS ?_
   refine tR fun _ _ _ => ?_
   iterate 3 refine pV ?_
   obtain ⟨rfl, rfl⟩ : n = 1 ∧ ps = [(2, 1)] := hI.resolve_left (fun h => h4 (by rw [h.1]; decide))
   exact tr_ret ⟨trivial, _, _, rfl, ⟨_, rfl, B, cb, rfl, rfl⟩, cs _ _, trivial, trivial⟩
def facE (l : Nat) : Int := if l = 0 then 7 else if l > 257 then 8 else 0
theorem facE_ok {l : Nat} (h : facE l = 0) : 1 ≤ l ∧ l ≤ 257 := by
 unfold facE at h
 split at h
 ·omega
 ·split at h <;> omega
theorem ne_of_len {p m : Int} {mod : List Int} [hF : IsF p m mod] {f : Po (El p m mod)} (h : 1 ≤ Po.len f) : f ≠ 0 := Po.len_pos_iff.1 (by omega)
theorem fac_enter_ent : Enters Try.prog 48 := enters_of Try.func48 (by kernel_rfl) (by kernel_rfl)
theorem fac_enter (g : GfM) {p m : Int} {mod : List Int} [hF : IsF p m mod] (hg : GOk g p m mod) (A : Option Addr) (n c : Nat) (a : List Int) (hn : n = a.length) (ha9 : a.length ≤ 17592186044415) (he : facE (Po.len (pol a : Po (El p m mod))) = 0) :
  Pure Try.prog 48 #[.pointer (some g.p), .slice A n c] [gfR g, ro A (ints a)] (one (fun v ch => ∃ B cap, v = .tuple #[.slice B (il (pol a : Po (El p m mod))).length cap, .int .i64 0] ∧ (il (pol a : Po (El p m mod))).length ≤ cap ∧ ch = ow B 3 cap (ints (il (pol a : Po (El p m mod)))))) := by
 have hil := il_length (pol a : Po (El p m mod))
 have hle := facE_ok he
 refine pure_of (args := [.pointer (some g.p), .slice A n c]) 20 Try.func48 rfl rfl rfl fac_enter_ent ⟨id, id, trivial⟩ (fun w0 => ?_)
 refine tS ?_
 refine tR fun _ _ _ => ?_
 iterate 2 refine pV ?_
 refine tS ?_
 refine tR fun _ _ _ => ?_
 iterate 2 refine pV ?_
 refine eV (eCall1 rfl rfl rfl (poly_CanonE g hg A n c a hn (by omega)) ⟨rfl, rfl, trivial⟩ ?_)
 rintro _ _ ⟨B1, c1, rfl, hc1, rfl⟩
 refine pV ?_
 refine tS ?_
 refine tB ?_
 refine tS ?_
 refine tR fun _ _ _ => ?_
 refine pV ?_
 refine sV (rLen rfl rfl) ?_
 iterate 2 refine pV ?_
 refine tC rfl (fun h2 => ?_) (fun h2 => ?_)
 ·try simp only [zbA] at h2
  omega --done
 ·try simp only [zbA] at h2
  refine tS ?_
  refine tR fun _ _ _ => ?_
  refine pV ?_
  refine sV (rLen rfl rfl) ?_
  refine sV (rSub rfl rfl rfl (by omega) (by omega)) ?_
  iterate 2 refine pV ?_
  refine tC rfl (fun h4 => ?_) (fun h4 => ?_)
  ·try simp only [zbA] at h4
   omega --done
  ·try simp only [zbA] at h4
   refine tK ?_
   refine tS ?_
   refine tR fun _ _ _ => ?_
   iterate 3 refine pV ?_
   exact tr_ret ⟨trivial, _, _, rfl, ⟨_, rfl, B1, c1, rfl, hc1, rfl⟩, cs _ _, trivial, trivial⟩
theorem poly_Degree_ent : Enters Try.prog 49 := enters_of Try.func49 (by kernel_rfl) (by kernel_rfl)
theorem poly_Degree (g : GfM) {p m : Int} {mod : List Int} [hF : IsF p m mod] (hg : GOk g p m mod) (A : Option Addr) (n c : Nat) (a : List Int) (hn : n = a.length) (ha9 : a.length ≤ 17592186044415) :
  Pure Try.prog 49 #[.pointer (some g.p), .slice A n c] [gfR g, ro A (ints a)] (isV (.int .i64 ((Po.len (pol a : Po (El p m mod)) : Int) - 1))) := by
 have hil := il_length (pol a : Po (El p m mod))
 have hle := il_le (p := p) (m := m) (mod := mod) a
 refine pure_of (args := [.pointer (some g.p), .slice A n c]) 10 Try.func49 rfl rfl rfl poly_Degree_ent ⟨id, id, trivial⟩ (fun w0 => ?_)
 refine tS ?_
 refine tR fun _ _ _ => ?_
 refine pV ?_
 refine tS ?_
 refine tR fun _ _ _ => ?_
 iterate 2 refine pV ?_
 refine eV (eCall1 rfl rfl rfl (poly_CanonE g hg A n c a hn (by omega)) ⟨rfl, rfl, trivial⟩ ?_)
 rintro _ _ ⟨B1, c1, rfl, hc1, rfl⟩
 refine sV (rLen rfl rfl) ?_
 refine sV (rSub rfl rfl rfl (by omega) (by omega)) ?_
 refine pV ?_
 exact tr_ret ⟨trivial, _, _, rfl, ⟨by rw [hil], rfl⟩, CSub.nil _, trivial⟩
section
variable {p m : Int} {mod : List Int} [hF : IsF p m mod]
theorem pol_one1 : (pol [1] : Po (El p m mod)) = 1 := Po.ext fun j => by
 have hq := hF.q2
 rw [cf_pol, Po.cf_one]
 match j with
 | 0 => rw [List.getD_cons_zero, if_pos rfl]; exact el_one
 | j + 1 => rw [List.getD_cons_succ, List.getD_nil, if_neg (by omega), el_zero]
theorem fpow_congr {M x y : Po (El p m mod)} (h : M ∣ x - y) : ∀ n, M ∣ Rg.pow x n - Rg.pow y n
 | 0 => ⟨0, by show (1 : Po (El p m mod)) - 1 = M * 0; grind⟩
 | n + 1 => by
  obtain ⟨a, ha⟩ := h
  obtain ⟨c, hc⟩ := fpow_congr ⟨a, ha⟩ n
  rw [Rg.pow_succ, Rg.pow_succ]
  generalize Rg.pow x n = X1 at *
  generalize Rg.pow y n = Y1 at *
  exact ⟨c * x + Y1 * a, by grind⟩
theorem fpow_dbl (b : Po (El p m mod)) (n : Nat) : Rg.pow (b * b) n = Rg.pow b (2 * n) := by rw [Rg.mul_pow, ← Rg.pow_add, Nat.two_mul]
theorem rem_pow_step {M f b : Po (El p m mod)} {k : Nat} {W : Po (El p m mod)} (hM : M ≠ 0) (h : M ∣ f * Rg.pow b k - W) : (k % 2 = 1 → M ∣ Po.rem (f * b) M * Rg.pow (Po.rem (b * b) M) (k / 2) - W) ∧ (k % 2 ≠ 1 → M ∣ f * Rg.pow (Po.rem (b * b) M) (k / 2) - W) := by
 have h1 := Po.rem_sub_dvd (f * b) hM
 have h2 := Po.rem_sub_dvd (b * b) hM
 have h3 : ∀ n, M ∣ Rg.pow (b * b) n - Rg.pow (Po.rem (b * b) M) n := fun n => fpow_congr h2 n
 have h4 : ∀ n, Rg.pow (b * b) n = Rg.pow b (2 * n) := fun n => fpow_dbl b n
 constructor
 ·intro hk
  obtain ⟨x1, e1⟩ := h1
  obtain ⟨x3, e3⟩ := h3 (k / 2)
  obtain ⟨x, e⟩ := h
  have hk2 : k = 2 * (k / 2) + 1 := by omega
  rw [h4] at e3
  rw [hk2, Rg.pow_succ] at e
  generalize Po.rem (f * b) M = r1 at *
  generalize Rg.pow (Po.rem (b * b) M) (k / 2) = r3 at *
  generalize Rg.pow b (2 * (k / 2)) = P3 at *
  exact ⟨x - x1 * P3 - r1 * x3, by grind⟩
 ·intro hk
  obtain ⟨x3, e3⟩ := h3 (k / 2)
  obtain ⟨x, e⟩ := h
  have hk2 : k = 2 * (k / 2) := by omega
  rw [h4] at e3
  rw [hk2] at e
  generalize Rg.pow (Po.rem (b * b) M) (k / 2) = r3 at *
  generalize Rg.pow b (2 * (k / 2)) = P3 at *
  exact ⟨x - f * x3, by grind⟩
theorem rem_uniq {M f W : Po (El p m mod)} (hM : M ≠ 0) (hl : Po.len f < Po.len M) (h : M ∣ f - W) : f = Po.rem W M := by
 rw [← Po.rem_small hl]; exact (Po.rem_eq_iff hM).2 h
end
section
variable {p m : Int} {mod : List Int} [hF : IsF p m mod]
theorem len_mul_le (f g : Po (El p m mod)) : Po.len (f * g) ≤ Po.len f + Po.len g := by
 by_cases hf : f = 0
 ·rw [hf, Rg.zero_mul, Po.len_zero]; omega
 ·by_cases hg : g = 0
  ·rw [hg, Rg.mul_zero, Po.len_zero]; omega
  ·rw [Po.len_mul hf hg]; omega
theorem rem_pow_start {M W : Po (El p m mod)} (hM : M ≠ 0) (n : Nat) : M ∣ Po.rem 1 M * Rg.pow (Po.rem W M) n - Rg.pow W n := by
 obtain ⟨a, ha⟩ := Po.rem_sub_dvd (1 : Po (El p m mod)) hM
 obtain ⟨c, hc⟩ := fpow_congr (Po.rem_sub_dvd W hM) n
 generalize Po.rem 1 M = r at *
 generalize Rg.pow (Po.rem W M) n = X1 at *
 generalize Rg.pow W n = Y1 at *
 exact ⟨-(c + a * X1), by grind⟩
end
theorem poly_PowMod_ent : Enters Try.prog 112 := enters_of Try.func112 (by kernel_rfl) (by kernel_rfl)
theorem poly_PowMod (g : GfM) {p m : Int} {mod : List Int} [hF : IsF p m mod] (hg : GOk g p m mod) (A : Option Addr) (n c : Nat) (a : List Int) (hn : n = a.length) (ha9 : a.length ≤ 1000000) (k : Int) (hk0 : 0 ≤ k) (hk9 : k ≤ 1000000) (C : Option Addr) (nc d2 : Nat) (ml : List Int) (hnc : nc = ml.length) (hm9 : ml.length ≤ 1000000) (he : facE (Po.len (pol ml : Po (El p m mod))) = 0) :
  Pure Try.prog 112 #[.pointer (some g.p), .slice A n c, .int .i64 k, .slice C nc d2] [gfR g, ro A (ints a), ro C (ints ml)] (one (fun v ch => ∃ B cap, v = .tuple #[.slice B (il (Po.rem (Rg.pow (pol a : Po (El p m mod)) k.toNat) (pol ml : Po (El p m mod)))).length cap, .int .i64 0] ∧ ch = ow B 3 cap (ints (il (Po.rem (Rg.pow (pol a : Po (El p m mod)) k.toNat) (pol ml : Po (El p m mod))))))) := by
 have hil := il_length (pol ml : Po (El p m mod))
 have hml := facE_ok he
 have hm0 := ne_of_len hml.1
 refine pure_of (args := [.pointer (some g.p), .slice A n c, .int .i64 k, .slice C nc d2]) 77 Try.func112 rfl rfl rfl poly_PowMod_ent ⟨id, id, id, trivial⟩ (fun w0 => ?_)
 refine tS ?_
 refine tR fun _ _ _ => ?_
 iterate 2 refine pV ?_
 refine tS ?_
 refine tR fun _ _ _ => ?_
 iterate 2 refine pV ?_
 refine eV (eCall1 rfl rfl rfl (poly_CanonE g hg C nc d2 ml hnc (by omega)) ⟨rfl, rfl, trivial⟩ ?_)
 rintro _ _ ⟨B1, c1, rfl, hc1, rfl⟩
 refine pV ?_
 refine tS ?_
 refine tB ?_
 refine tS ?_
 refine tR fun _ _ _ => ?_
 refine pV ?_
 refine sV (rLen rfl rfl) ?_
 iterate 2 refine pV ?_
 refine tC rfl (fun h2 => ?_) (fun h2 => ?_)
 ·try simp only [zbA] at h2
  omega --done
 ·try simp only [zbA] at h2
  refine tS ?_
  refine tR fun _ _ _ => ?_
  refine pV ?_
  refine sV (rLen rfl rfl) ?_
  refine sV (rSub rfl rfl rfl (by omega) (by omega)) ?_
  iterate 2 refine pV ?_
  refine tC rfl (fun h4 => ?_) (fun h4 => ?_)
  ·try simp only [zbA] at h4
   omega --done
  ·try simp only [zbA] at h4
   refine tS ?_
   refine tR fun _ _ _ => ?_
   iterate 3 refine pV ?_
   refine tC rfl (fun h6 => ?_) (fun h6 => ?_)
   ·try simp only [zbA] at h6
    omega --done
   ·try simp only [zbA] at h6
    refine tK ?_
    refine tS ?_
    refine tR fun _ _ _ => ?_
    refine pV ?_
    refine eV (eLit1I rfl rfl rfl rfl (fun A8 => ?_))
    refine pV ?_
    refine eV (eCall2 rfl rfl rfl (poly_DivMod g hg A8 _ 1 [1] rfl (by simp) B1 _ c1 (il (pol ml : Po (El p m mod))) rfl (by omega) (by rw [pol_il]; exact hm0)) ⟨rfl, rfl, rfl, trivial⟩ ?_)
    rintro _ _ _ ⟨Q8a, q8a, B8a, c8a, rfl, rfl, rfl⟩
    iterate 7 refine pV ?_
    rw [pol_il]
    refine tS ?_
    refine tR fun _ _ _ => ?_
    iterate 3 refine pV ?_
    refine eV (eCall2 rfl rfl rfl (poly_DivMod g hg A n c a hn (by omega) B1 _ c1 (il (pol ml : Po (El p m mod))) rfl (by omega) (by rw [pol_il]; exact hm0)) ⟨rfl, rfl, rfl, trivial⟩ ?_)
    rintro _ _ _ ⟨Q9, q9, B9, c9, rfl, rfl, rfl⟩
    iterate 7 refine pV ?_
    rw [pol_il]
    refine tS ?_
    refine tB ?_
    refine tr_loop7 (fun (t : Int) (Bx : Option Addr) (cx : Nat) (f : Po (El p m mod)) (By : Option Addr) (cy : Nat) (b : Po (El p m mod)) => [(2, .int .i64 t), (11, .slice Bx (il f).length cx), (14, .slice By (il b).length cy), (0, .pointer (some g.p)), (3, .slice B1 (il (pol ml : Po (El p m mod))).length c1), (8, .slice none 0 0), (9, .int .i64 0)]) (fun (t : Int) (Bx : Option Addr) (cx : Nat) (f : Po (El p m mod)) (By : Option Addr) (cy : Nat) (b : Po (El p m mod)) => [ow Bx 3 cx (ints (il f)), ow By 3 cy (ints (il b)), ow B1 3 c1 (ints (il (pol ml : Po (El p m mod)))), gfR g]) (fun (t : Int) (Bx : Option Addr) (cx : Nat) (f : Po (El p m mod)) (By : Option Addr) (cy : Nat) (b : Po (El p m mod)) => (0 ≤ t ∧ t ≤ k) ∧ Po.len f < Po.len (pol ml : Po (El p m mod)) ∧ Po.len b < Po.len (pol ml : Po (El p m mod)) ∧ (pol ml : Po (El p m mod)) ∣ f * Rg.pow b t.toNat - Rg.pow (pol a : Po (El p m mod)) k.toNat) (fun (t : Int) (Bx : Option Addr) (cx : Nat) (f : Po (El p m mod)) (By : Option Addr) (cy : Nat) (b : Po (El p m mod)) => t.toNat) (k) (B8a) (c8a) ((Po.rem (pol [1]) (pol ml : Po (El p m mod)))) (B9) (c9) ((Po.rem (pol a : Po (El p m mod)) (pol ml : Po (El p m mod)))) ⟨rfl, rfl, rfl, rfl, rfl, rfl, rfl, trivial⟩ (by first | exact cs _ _ | exact CSub.refl _) (⟨⟨by omega, by omega⟩, Po.rem_len _ hm0, Po.rem_len _ hm0, by rw [pol_one1]; exact rem_pow_start hm0 _⟩) (fun t Bx cx f By cy b hI => ?_)
    obtain ⟨⟨ht0, ht9⟩, hfl, hbl, hd⟩ := hI
    refine tS ?_
    refine tS ?_
    refine tR fun _ _ _ => ?_
    iterate 2 refine pV ?_
    refine tC rfl (fun h10 => ?_) (fun h10 => ?_)
    ·try simp only [zbA] at h10
     refine tK ?_
     refine tS ?_
     refine tB ?_
     refine tS ?_
     refine tS ?_
     have hilf := il_length f
     have hilb := il_length b
     refine tR fun _ _ _ => ?_
     refine pV ?_
     refine sV (rRem rfl rfl rfl (by omega) (by omega)) ?_
     refine pV ?_
     refine tC rfl (fun h12 => ?_) (fun h12 => ?_)
     ·try simp only [zbA] at h12
      refine tR fun _ _ _ => ?_
      iterate 4 refine pV ?_
      refine eV (eCall1 rfl rfl rfl (poly_product g hg Bx _ cx (il f) rfl (by omega) By _ cy (il b) rfl (by omega)) ⟨rfl, rfl, rfl, trivial⟩ ?_)
      rintro _ _ ⟨B13, c13, rfl, rfl⟩
      refine pV ?_
      have hl13 := il_length (pol (il (f : Po (El p m mod))) * pol (il b) : Po (El p m mod))
      have hl13b := len_mul_le (pol (il (f : Po (El p m mod)))) (pol (il b) : Po (El p m mod))
      have e13 : Po.len (pol (il (f : Po (El p m mod))) : Po (El p m mod)) = (il f).length := by rw [pol_il, il_length]
      have e14 : Po.len (pol (il b) : Po (El p m mod)) = (il b).length := by rw [pol_il, il_length]
      refine eV (eCall2 rfl rfl rfl (poly_DivMod g hg B13 _ c13 (il (pol (il f) * pol (il b))) rfl (by omega) B1 _ c1 (il (pol ml : Po (El p m mod))) rfl (by omega) (by rw [pol_il]; exact hm0)) ⟨rfl, rfl, rfl, trivial⟩ ?_)
      rintro _ _ _ ⟨Q13a, q13a, B13a, c13a, rfl, rfl, rfl⟩
      iterate 5 refine pV ?_
      rw [pol_il, pol_il, pol_il, pol_il]
      refine tR fun _ _ _ => ?_
      iterate 4 refine pV ?_
      refine eV (eCall1 rfl rfl rfl (poly_product g hg By _ cy (il b) rfl (by omega) By _ cy (il b) rfl (by omega)) ⟨rfl, rfl, rfl, trivial⟩ ?_)
      rintro _ _ ⟨B14, c14, rfl, rfl⟩
      refine pV ?_
      have hl14 := il_length (pol (il b) * pol (il b) : Po (El p m mod))
      have hl14b := len_mul_le (pol (il b)) (pol (il b) : Po (El p m mod))
      have e15 : Po.len (pol (il b) : Po (El p m mod)) = (il b).length := by rw [pol_il, il_length]
      refine eV (eCall2 rfl rfl rfl (poly_DivMod g hg B14 _ c14 (il (pol (il b) * pol (il b))) rfl (by omega) B1 _ c1 (il (pol ml : Po (El p m mod))) rfl (by omega) (by rw [pol_il]; exact hm0)) ⟨rfl, rfl, rfl, trivial⟩ ?_)
      rintro _ _ _ ⟨Q14a, q14a, B14a, c14a, rfl, rfl, rfl⟩
      iterate 5 refine pV ?_
      rw [pol_il, pol_il, pol_il]
      refine tR fun _ _ _ => ?_
      refine pV ?_
      refine sV (rQuo rfl rfl rfl (by omega) (by omega)) ?_
      refine pV ?_
      refine ⟨t / 2, B13a, c13a, (Po.rem (f * b) (pol ml : Po (El p m mod))), B14a, c14a, (Po.rem (b * b) (pol ml : Po (El p m mod))), ⟨rfl, rfl, rfl, rfl, rfl, rfl, rfl, trivial⟩, by first | exact cs _ _ | exact CSub.refl _, ?_⟩
      exact ⟨⟨⟨by omega, by omega⟩, Po.rem_len _ hm0, Po.rem_len _ hm0, by rw [show (t / 2).toNat = t.toNat / 2 by omega]; exact (rem_pow_step hm0 hd).1 (by omega)⟩, by omega⟩
     ·try simp only [zbA] at h12
      refine tK ?_
      refine tR fun _ _ _ => ?_
      iterate 4 refine pV ?_
      refine eV (eCall1 rfl rfl rfl (poly_product g hg By _ cy (il b) rfl (by omega) By _ cy (il b) rfl (by omega)) ⟨rfl, rfl, rfl, trivial⟩ ?_)
      rintro _ _ ⟨B14, c14, rfl, rfl⟩
      refine pV ?_
      have hl14 := il_length (pol (il b) * pol (il b) : Po (El p m mod))
      have hl14b := len_mul_le (pol (il b)) (pol (il b) : Po (El p m mod))
      have e15 : Po.len (pol (il b) : Po (El p m mod)) = (il b).length := by rw [pol_il, il_length]
      refine eV (eCall2 rfl rfl rfl (poly_DivMod g hg B14 _ c14 (il (pol (il b) * pol (il b))) rfl (by omega) B1 _ c1 (il (pol ml : Po (El p m mod))) rfl (by omega) (by rw [pol_il]; exact hm0)) ⟨rfl, rfl, rfl, trivial⟩ ?_)
      rintro _ _ _ ⟨Q14a, q14a, B14a, c14a, rfl, rfl, rfl⟩
      iterate 5 refine pV ?_
      rw [pol_il, pol_il, pol_il]
      refine tR fun _ _ _ => ?_
      refine pV ?_
      refine sV (rQuo rfl rfl rfl (by omega) (by omega)) ?_
      refine pV ?_
      refine ⟨t / 2, Bx, cx, f, B14a, c14a, (Po.rem (b * b) (pol ml : Po (El p m mod))), ⟨rfl, rfl, rfl, rfl, rfl, rfl, rfl, trivial⟩, by first | exact cs _ _ | exact CSub.refl _, ?_⟩
      exact ⟨⟨⟨by omega, by omega⟩, hfl, Po.rem_len _ hm0, by rw [show (t / 2).toNat = t.toNat / 2 by omega]; exact (rem_pow_step hm0 hd).2 (by omega)⟩, by omega⟩
    ·try simp only [zbA] at h10
     refine tE ?_
     refine tS ?_
     refine tR fun _ _ _ => ?_
     iterate 3 refine pV ?_
     have htz : t.toNat = 0 := by omega
     rw [htz] at hd
     have hfe := rem_uniq hm0 hfl (show (pol ml : Po (El p m mod)) ∣ f - Rg.pow (pol a : Po (El p m mod)) k.toNat by
      have e : f * Rg.pow b 0 = f := by show f * 1 = f; grind
      rw [e] at hd; exact hd)
     subst hfe
     exact tr_ret ⟨trivial, _, _, rfl, ⟨_, rfl, Bx, cx, rfl, rfl⟩, cs _ _, trivial, trivial⟩
theorem fac_frobenius_ent : Enters Try.prog 53 := enters_of Try.func53 (by kernel_rfl) (by kernel_rfl)
theorem fac_frobenius (g : GfM) {p m : Int} {mod : List Int} [hF : IsF p m mod] (hg : GOk g p m mod) (A : Option Addr) (n c : Nat) (a : List Int) (hn : n = a.length) (ha9 : a.length ≤ 1000000) (C : Option Addr) (nc d2 : Nat) (ml : List Int) (hnc : nc = ml.length) (hm9 : ml.length ≤ 1000000) (he : facE (Po.len (pol ml : Po (El p m mod))) = 0) :
  Pure Try.prog 53 #[.pointer (some g.p), .slice A n c, .slice C nc d2] [gfR g, ro A (ints a), ro C (ints ml)] (one (fun v ch => ∃ B cap, v = .slice B (il (Po.rem (Rg.pow (pol a : Po (El p m mod)) (pw p m).toNat) (pol ml : Po (El p m mod)))).length cap ∧ ch = ow B 3 cap (ints (il (Po.rem (Rg.pow (pol a : Po (El p m mod)) (pw p m).toNat) (pol ml : Po (El p m mod))))))) := by
 have hgq := hg.eq
 have hq2 := hF.q2
 have hq256 := hF.out.1.1.q
 refine pure_of (args := [.pointer (some g.p), .slice A n c, .slice C nc d2]) 19 Try.func53 rfl rfl rfl fac_frobenius_ent ⟨id, id, id, trivial⟩ (fun w0 => ?_)
 refine tS ?_
 refine tR fun _ _ _ => ?_
 refine pV ?_
 refine tS ?_
 refine tR fun _ _ _ => ?_
 iterate 3 refine pV ?_
 refine eV (eCallV rfl rfl rfl (gf_Order g) ⟨rfl, trivial⟩ ?_)
 refine pV ?_
 rw [hgq]
 refine eV (eCall1 rfl rfl rfl (poly_PowMod g hg A n c a hn ha9 (pw p m) (by omega) (by omega) C nc d2 ml hnc hm9 he) ⟨rfl, rfl, rfl, rfl, trivial⟩ ?_)
 rintro _ _ ⟨B1, c1, rfl, rfl⟩
 iterate 5 refine pV ?_
 refine tS ?_
 refine tR fun _ _ _ => ?_
 iterate 2 refine pV ?_
 exact tr_ret ⟨trivial, _, _, rfl, ⟨_, rfl, B1, c1, rfl, rfl⟩, cs _ _, trivial, trivial⟩
end Go.Proofs.Ytbhoeaijpnjgdaa

set_option maxRecDepth 100000
namespace Go.Proofs.Ytbhoeaijpnjgdaa
open Go.RowKit
theorem pws_get1 (ps : List (Int × Int)) (j : Nat) (h : j < ps.length) : ((pws ps).getD j prD).1 = .int .i64 (ps.getD j (0, 0)).1 := by rw [pws_get ps j h]
theorem pws_get2 (ps : List (Int × Int)) (j : Nat) (h : j < ps.length) : ((pws ps).getD j prD).2 = .int .i64 (ps.getD j (0, 0)).2 := by rw [pws_get ps j h]
section
variable {p m : Int} {mod : List Int} [hF : IsF p m mod]
theorem pol_X01 : (pol [0, 1] : Po (El p m mod)) = Po.X := Po.ext fun j => by
 rw [cf_pol, show (Po.X : Po (El p m mod)) = Po.mn 1 1 from rfl, Po.cf_mn]
 match j with
 | 0 => rw [List.getD_cons_zero, if_neg (by omega), el_zero]
 | 1 => rw [List.getD_cons_succ, List.getD_cons_zero, if_pos rfl]; exact el_one
 | j + 2 => rw [List.getD_cons_succ, List.getD_cons_succ, List.getD_nil, if_neg (by omega), el_zero]
noncomputable def irB (P : Po (El p m mod)) : Bool := @decide (Po.Ir P) (Classical.propDecidable _)
theorem irB_iff {P : Po (El p m mod)} : irB P = true ↔ Po.Ir P := by unfold irB; exact @decide_eq_true_iff _ (Classical.propDecidable _)
theorem irB_no {P : Po (El p m mod)} (h : ¬ Po.Ir P) : irB P = false := Bool.eq_false_iff.2 fun e => h (irB_iff.1 e)
theorem xq_rem {P : Po (El p m mod)} (hP : P ≠ 0) (i : Nat) : P ∣ (Po.rem (Rg.pow Po.X ((pw p m).toNat ^ i)) P - Po.X) - xq p m mod i := by
 obtain ⟨a, ha⟩ := Po.rem_sub_dvd (Rg.pow (Po.X : Po (El p m mod)) ((pw p m).toNat ^ i)) hP
 unfold xq
 generalize Rg.pow (Po.X : Po (El p m mod)) ((pw p m).toNat ^ i) = W at *
 generalize Po.rem W P = r at *
 exact ⟨-a, by grind⟩
theorem rem_next {P : Po (El p m mod)} (hP : P ≠ 0) (i : Nat) : Po.rem (Rg.pow (Po.rem (Rg.pow Po.X ((pw p m).toNat ^ i)) P) (pw p m).toNat) P = Po.rem (Rg.pow Po.X ((pw p m).toNat ^ (i + 1))) P := (Po.rem_eq_iff hP).2 (by
 have h := fpow_congr (Po.rem_sub_dvd (Rg.pow (Po.X : Po (El p m mod)) ((pw p m).toNat ^ i)) hP) (pw p m).toNat
 rw [← Rg.pow_mul, ← Nat.pow_succ] at h
 obtain ⟨a, ha⟩ := h
 generalize Rg.pow (Po.rem (Rg.pow Po.X ((pw p m).toNat ^ i)) P) (pw p m).toNat = x at *
 generalize Rg.pow (Po.X : Po (El p m mod)) ((pw p m).toNat ^ (i + 1)) = y at *
 exact ⟨-a, by grind⟩)
theorem prL_at {N : Nat} {ps : List (Int × Int)} (h : PrL N ps) {j : Nat} (hj : j < ps.length) : 2 ≤ (ps.getD j (0, 0)).1 ∧ (∀ u, 2 ≤ u → u ∣ (ps.getD j (0, 0)).1.toNat → u = (ps.getD j (0, 0)).1.toNat) ∧ (ps.getD j (0, 0)).1.toNat ∣ N := by
 have h1 := h.1 _ (getD_mem hj (0, 0))
 have h2 := (h.2 (ps.getD j (0, 0)).1.toNat).1 ⟨_, getD_mem hj (0, 0), by omega⟩
 exact ⟨h1, h2.2⟩
theorem irr_no {P : Po (El p m mod)} {N : Nat} (hN : Po.len P = N + 1) (h1 : 1 ≤ N) {ps : List (Int × Int)} (hps : PrL N ps) {j : Nat} (hj : j < ps.length) (hg : ¬ Po.gcd P (xq p m mod ((N : Int) / (ps.getD j (0, 0)).1).toNat) = 1) : irB P = false := irB_no fun hi => hg (by
 have h2 := prL_at hps hj
 have h3 := ((rabin hN h1).1 hi).2 _ (by omega) h2.2.1 h2.2.2
 rw [show ((N : Int) / (ps.getD j (0, 0)).1).toNat = N / (ps.getD j (0, 0)).1.toNat by
  obtain ⟨r, hr⟩ : ∃ r : Nat, (ps.getD j (0, 0)).1 = (r : Int) := ⟨(ps.getD j (0, 0)).1.toNat, by omega⟩
  rw [hr, ← Int.natCast_ediv]; rfl]
 exact h3)
theorem irr_yes {P : Po (El p m mod)} {N : Nat} (hN : Po.len P = N + 1) (h1 : 1 ≤ N) {ps : List (Int × Int)} (hps : PrL N ps) (hall : ∀ z : Nat, z < ps.length → Po.gcd P (xq p m mod ((N : Int) / (ps.getD z (0, 0)).1).toNat) = 1) :
  decide (il (Po.rem (Rg.pow Po.X ((pw p m).toNat ^ N)) P) = il (Po.rem Po.X P)) = irB P := by
 have hP : P ≠ 0 := Po.len_pos_iff.1 (by omega)
 have h2 : (il (Po.rem (Rg.pow Po.X ((pw p m).toNat ^ N)) P) = il (Po.rem Po.X P)) ↔ P ∣ xq p m mod N := by
  constructor
  ·intro h
   have := congrArg (pol (p := p) (m := m) (mod := mod)) h
   rw [pol_il, pol_il] at this
   exact (Po.rem_eq_iff hP).1 this
  ·intro h; rw [(Po.rem_eq_iff hP).2 h]
 have h3 : Po.Ir P ↔ P ∣ xq p m mod N := by
  rw [rabin hN h1]
  refine ⟨fun h => h.1, fun h => ⟨h, fun r r2 rp rd => ?_⟩⟩
  obtain ⟨q, hq, hqr⟩ := (hps.2 r).2 ⟨r2, rp, rd⟩
  obtain ⟨z, hz, rfl⟩ := List.getElem_of_mem hq
  have h4 := hall z hz
  rw [List.getD_eq_getElem?_getD, List.getElem?_eq_getElem hz] at h4
  simp only [Option.getD_some] at h4
  rw [hqr, ← Int.natCast_ediv] at h4
  exact h4
 rw [Bool.eq_iff_iff, decide_eq_true_iff, irB_iff, h2, h3]
theorem gcd_sub_xq {P : Po (El p m mod)} (hP : P ≠ 0) (i : Nat) : Po.gcd P (Po.rem (Rg.pow Po.X ((pw p m).toNat ^ i)) P - Po.X) = Po.gcd P (xq p m mod i) := gcd_congr hP (xq_rem hP i)
theorem gcd_len {P f : Po (El p m mod)} (hP : P ≠ 0) : Po.len (Po.gcd P f) ≤ Po.len P := Po.dvd_len (Po.gcd_is P f).left hP
end
theorem nq_pos {N : Nat} {ps : List (Int × Int)} (h : PrL N ps) (h1 : 1 ≤ N) {z : Nat} (hz : z < ps.length) : 1 ≤ (N : Int) / (ps.getD z (0, 0)).1 := by
 have h2 := h.1 _ (getD_mem hz (0, 0))
 have h3 := (h.2 (ps.getD z (0, 0)).1.toNat).1 ⟨_, getD_mem hz (0, 0), by omega⟩
 have h4 := Nat.le_of_dvd (by omega) h3.2.2
 exact Int.le_ediv_of_mul_le (by omega) (by omega)
theorem nq_le {N : Nat} {ps : List (Int × Int)} (h : PrL N ps) (h1 : 1 ≤ N) {z : Nat} (hz : z < ps.length) : (N : Int) / (ps.getD z (0, 0)).1 ≤ N := Int.ediv_le_self _ (by omega)
theorem fac_Irr_ent : Enters Try.prog 44 := enters_of Try.func44 (by kernel_rfl) (by kernel_rfl)
theorem fac_Irr (g : GfM) {p m : Int} {mod : List Int} [hF : IsF p m mod] (hg : GOk g p m mod) (A : Option Addr) (n c : Nat) (a : List Int) (hn : n = a.length) (ha9 : a.length ≤ 17592186044415) (he : facE (Po.len (pol a : Po (El p m mod))) = 0) (N : Nat) (hN : Po.len (pol a : Po (El p m mod)) = N + 1) (h1 : 1 ≤ N) (ps : List (Int × Int)) (hpl : ps.length ≤ 1000) (hps : PrL N ps) (hfac : Pure Try.prog 101 #[.int .i64 N] [] (one (fun v ch => ∃ B c, v = .tuple #[.slice B ps.length c, .int .i64 0] ∧ ch = ow2 B 124 c (pws ps)))) :
  Pure Try.prog 44 #[.pointer (some g.p), .slice A n c] [gfR g, ro A (ints a)] (isV (.tuple #[.bool (irB (pol a : Po (El p m mod))), .int .i64 0])) := by
 have h1N := h1
 have hil := il_length (pol a : Po (El p m mod))
 have hle := facE_ok he
 have hm0 := ne_of_len hle.1
 have hil0 := il_length (Po.rem Po.X (pol a : Po (El p m mod)))
 have hlr0 := Po.rem_len (Po.X : Po (El p m mod)) hm0
 refine pure_of (args := [.pointer (some g.p), .slice A n c]) 85 Try.func44 rfl rfl rfl fac_Irr_ent ⟨id, id, trivial⟩ (fun w0 => ?_)
 refine tS ?_
 refine tR fun _ _ _ => ?_
 iterate 2 refine pV ?_
 refine tS ?_
 refine tR fun _ _ _ => ?_
 iterate 2 refine pV ?_
 refine eV (eCall1 rfl rfl rfl (fac_enter g hg A n c a hn ha9 he) ⟨rfl, rfl, trivial⟩ ?_)
 rintro _ _ ⟨B1, c1, rfl, hc1, rfl⟩
 iterate 5 refine pV ?_
 refine tS ?_
 refine tS ?_
 refine tR fun _ _ _ => ?_
 iterate 2 refine pV ?_
 refine tC rfl (fun h2 => ?_) (fun h2 => ?_)
 ·try simp only [zbA] at h2
  first | exact absurd trivial h2 | exact absurd rfl h2 | omega | (exact absurd h2 (by simp)) --done
 ·try simp only [zbA] at h2
  refine tK ?_
  refine tS ?_
  refine tR fun _ _ _ => ?_
  refine pV ?_
  refine sV (rLen rfl rfl) ?_
  refine sV (rSub rfl rfl rfl (by omega) (by omega)) ?_
  refine pV ?_
  rw [show ((il (pol a : Po (El p m mod))).length : Int) - 1 = (N : Int) by omega]
  refine tS ?_
  refine tS ?_
  refine tR fun _ _ _ => ?_
  iterate 2 refine pV ?_
  refine tC rfl (fun h5 => ?_) (fun h5 => ?_)
  ·try simp only [zbA] at h5
   omega --done
  ·try simp only [zbA] at h5
   refine tK ?_
   refine tS ?_
   refine tR fun _ _ _ => ?_
   refine pV ?_
   refine eV (eCall1 rfl rfl rfl (hfac) ⟨rfl, trivial⟩ ?_)
   rintro _ _ ⟨B7, c7, rfl, rfl⟩
   iterate 5 refine pV ?_
   refine tS ?_
   refine tR fun _ _ _ => ?_
   refine eV (eLit2I rfl rfl rfl rfl rfl (fun A8 => ?_))
   refine pV ?_
   refine tS ?_
   refine tR fun _ _ _ => ?_
   iterate 3 refine pV ?_
   refine eV (eCall2 rfl rfl rfl (poly_DivMod g hg A8 _ 2 [0, 1] rfl (by simp) B1 _ c1 (il (pol a : Po (El p m mod))) rfl (by omega) (by rw [pol_il]; exact hm0)) ⟨rfl, rfl, rfl, trivial⟩ ?_)
   rintro _ _ _ ⟨Q9, q9, B9, c9, rfl, rfl, rfl⟩
   iterate 7 refine pV ?_
   rw [pol_il, pol_X01]
   refine tS ?_
   refine tR fun _ _ _ => ?_
   iterate 2 refine pV ?_
   refine tS ?_
   refine tS ?_
   refine tr_chunks [ro B9 (ints (il (Po.rem Po.X (pol a : Po (El p m mod))))), ro B9 (ints (il (Po.rem Po.X (pol a : Po (El p m mod))))), ow A8 3 2 (ints [0, 1]), ow2 B7 124 c7 (pws ps), ow B1 3 c1 (ints (il (pol a : Po (El p m mod)))), gfR g] ((cs _ [ow B9 3 c9 (ints (il (Po.rem Po.X (pol a : Po (El p m mod))))), ow A8 3 2 (ints [0, 1]), ow2 B7 124 c7 (pws ps), ow B1 3 c1 (ints (il (pol a : Po (El p m mod)))), gfR g]).trans ((ow_ro _).trans (ro_dup _))) ?_
   refine tR fun _ _ _ => ?_
   refine pV ?_
   refine tB ?_
   refine tr_loop4 (fun (i : Int) (Bh : Option Addr) (ch : Nat) (f : Po (El p m mod)) => [(13, .slice Bh (il f).length ch), (15, .slice B9 (il (Po.rem Po.X (pol a : Po (El p m mod)))).length c9), (16, .int .i64 i), (8, .int .i64 N), (11, .slice A8 2 2), (0, .pointer (some g.p)), (6, .slice B1 (il (pol a : Po (El p m mod))).length c1), (9, .slice B7 ps.length c7)]) (fun (i : Int) (Bh : Option Addr) (ch : Nat) (f : Po (El p m mod)) => [ro Bh (ints (il f)), ro B9 (ints (il (Po.rem Po.X (pol a : Po (El p m mod))))), ow A8 3 2 (ints [0, 1]), ow2 B7 124 c7 (pws ps), ow B1 3 c1 (ints (il (pol a : Po (El p m mod)))), gfR g]) (fun (i : Int) (Bh : Option Addr) (ch : Nat) (f : Po (El p m mod)) => (1 ≤ i ∧ i ≤ N + 1) ∧ f = (Po.rem (Rg.pow Po.X ((pw p m).toNat ^ (i - 1).toNat)) (pol a : Po (El p m mod))) ∧ ∀ z : Nat, z < ps.length → ((N : Int) / (ps.getD z (0, 0)).1) < i → Po.gcd (pol a : Po (El p m mod)) (xq p m mod ((N : Int) / (ps.getD z (0, 0)).1).toNat) = 1) (fun (i : Int) (Bh : Option Addr) (ch : Nat) (f : Po (El p m mod)) => (N + 1 - i).toNat) (1) (B9) (c9) ((Po.rem Po.X (pol a : Po (El p m mod)))) ⟨rfl, rfl, rfl, rfl, rfl, rfl, rfl, rfl, trivial⟩ (by first | exact cs _ _ | exact CSub.refl _) (⟨⟨by omega, by omega⟩, by rw [show ((1 : Int) - 1).toNat = 0 from rfl, Nat.pow_zero, show Rg.pow (Po.X : Po (El p m mod)) 1 = Po.X from Rg.one_mul _], fun z hz hlt => absurd hlt (by have := nq_pos hps h1N hz; omega)⟩) (fun i Bh ch f hI => ?_)
   obtain ⟨⟨hi0, hi1⟩, rfl, hall⟩ := hI
   refine tS ?_
   refine tS ?_
   refine tR fun _ _ _ => ?_
   iterate 3 refine pV ?_
   refine tC rfl (fun h12 => ?_) (fun h12 => ?_)
   ·try simp only [zbA] at h12
    refine tK ?_
    refine tS ?_
    refine tB ?_
    refine tS ?_
    have hilh := il_length (Po.rem (Rg.pow Po.X ((pw p m).toNat ^ (i - 1).toNat)) (pol a : Po (El p m mod)))
    have hlrh := Po.rem_len (Rg.pow Po.X ((pw p m).toNat ^ (i - 1).toNat)) hm0
    have hiln := il_length (Po.rem (Rg.pow Po.X ((pw p m).toNat ^ i.toNat)) (pol a : Po (El p m mod)))
    have hlrn := Po.rem_len (Rg.pow Po.X ((pw p m).toNat ^ i.toNat)) hm0
    refine tR fun _ _ _ => ?_
    iterate 3 refine pV ?_
    refine eV (eCall1 rfl rfl rfl (fac_frobenius g hg Bh _ ch (il (Po.rem (Rg.pow Po.X ((pw p m).toNat ^ (i - 1).toNat)) (pol a : Po (El p m mod)))) rfl (by omega) B1 _ c1 (il (pol a : Po (El p m mod))) rfl (by omega) (by rw [pol_il]; exact he)) ⟨rfl, rfl, rfl, trivial⟩ ?_)
    rintro _ _ ⟨B14, c14, rfl, rfl⟩
    refine pV ?_
    rw [pol_il, pol_il, rem_next hm0, show (i - 1).toNat + 1 = i.toNat by omega]
    refine tS ?_
    refine tR fun _ _ _ => ?_
    refine pV ?_
    refine sV (rLenS rfl rfl) ?_
    refine pV ?_
    refine tB ?_
    refine tr_loop1 (fun (j : Int) => [(59, .int .i64 j), (57, .slice B7 ps.length c7), (58, .int .i64 ps.length), (0, .pointer (some g.p)), (6, .slice B1 (il (pol a : Po (El p m mod))).length c1), (8, .int .i64 N), (9, .slice B7 ps.length c7), (11, .slice A8 2 2), (13, .slice B14 (il (Po.rem (Rg.pow Po.X ((pw p m).toNat ^ i.toNat)) (pol a : Po (El p m mod)))).length c14), (15, .slice B9 (il (Po.rem Po.X (pol a : Po (El p m mod)))).length c9), (16, .int .i64 i), (48, .int .i64 i), (49, .int .i64 N), (56, .slice B14 (il (Po.rem (Rg.pow Po.X ((pw p m).toNat ^ i.toNat)) (pol a : Po (El p m mod)))).length c14)]) (fun (j : Int) => [ow B14 3 c14 (ints (il (Po.rem (Rg.pow Po.X ((pw p m).toNat ^ i.toNat)) (pol a : Po (El p m mod))))), ro B9 (ints (il (Po.rem Po.X (pol a : Po (El p m mod))))), ow A8 3 2 (ints [0, 1]), ow2 B7 124 c7 (pws ps), ow B1 3 c1 (ints (il (pol a : Po (El p m mod)))), gfR g]) (fun (j : Int) => (0 ≤ j ∧ j ≤ ps.length) ∧ ∀ z : Nat, (z : Int) < j → ((N : Int) / (ps.getD z (0, 0)).1) = i → Po.gcd (pol a : Po (El p m mod)) (xq p m mod i.toNat) = 1) (fun (j : Int) => (ps.length - j).toNat) (0) ⟨rfl, rfl, rfl, rfl, rfl, rfl, rfl, rfl, rfl, rfl, rfl, rfl, rfl, rfl, trivial⟩ (by first | exact cs _ _ | exact CSub.refl _) (⟨⟨by omega, by omega⟩, fun z hz => by omega⟩) (fun j hI => ?_)
    obtain ⟨⟨hj0, hj1⟩, hj⟩ := hI
    refine tS ?_
    refine tR fun _ _ _ => ?_
    refine pV ?_
    refine tS ?_
    refine tC rfl (fun h16 => ?_) (fun h16 => ?_)
    ·try simp only [zbA] at h16
     refine tK ?_
     refine tS ?_
     refine tB ?_
     refine tS ?_
     have hjl : j.toNat < ps.length := by omega
     have hat := prL_at hps hjl
     refine tR fun _ _ _ => ?_
     refine sV (rIdxT rfl rfl rfl (by omega) (by omega) (by simp; omega)) ?_
     refine sV (rLdT rfl rfl (by simp; omega)) ?_
     refine eV (eAlloc rfl rfl rfl (fun p17 => ?_))
     rw [pws_get1 ps j.toNat hjl, pws_get2 ps j.toNat hjl]
     refine eV (eStS rfl rfl rfl rfl rfl rfl ?_)
     refine tS ?_
     by_cases hs : ((N : Int) / (ps.getD j.toNat (0, 0)).1) = i
     ·refine tR fun _ _ _ => ?_
      refine pV ?_
      refine sV (rFld rfl rfl) ?_
      refine sV (rLdF rfl rfl rfl) ?_
      refine sV (rQuo rfl rfl rfl (by omega) (by omega)) ?_
      iterate 3 refine pV ?_
      refine stT rfl rfl rfl (by first | exact decide_eq_true hs | (rw [decide_eq_true hs]; rfl)) rfl rfl (rMove rfl rfl) ?_
      refine stT rfl rfl rfl (by first | exact decide_eq_true hs | (rw [decide_eq_true hs]; rfl)) rfl rfl (rMove rfl rfl) ?_
      refine stT rfl rfl rfl (by first | exact decide_eq_true hs | (rw [decide_eq_true hs]; rfl)) rfl rfl (rMove rfl rfl) ?_
      refine stT rfl rfl rfl (by first | exact decide_eq_true hs | (rw [decide_eq_true hs]; rfl)) rfl rfl (rMove rfl rfl) ?_
      refine stT rfl rfl rfl (by first | exact decide_eq_true hs | (rw [decide_eq_true hs]; rfl)) rfl rfl (rMove rfl rfl) ?_
      refine stT rfl rfl rfl (by first | exact decide_eq_true hs | (rw [decide_eq_true hs]; rfl)) rfl rfl (rMove rfl rfl) ?_
      refine efT rfl rfl rfl (by first | exact decide_eq_true hs | (rw [decide_eq_true hs]; rfl)) (eCall1 rfl rfl rfl (poly_Sub g hg B14 _ c14 (il (Po.rem (Rg.pow Po.X ((pw p m).toNat ^ i.toNat)) (pol a : Po (El p m mod)))) rfl (by omega) A8 _ 2 [0, 1] rfl (by simp)) ⟨rfl, rfl, rfl, trivial⟩ ?_)
      rintro _ _ ⟨B18, c18, rfl, rfl⟩
      have hs1 := il_length (pol (il (Po.rem (Rg.pow Po.X ((pw p m).toNat ^ i.toNat)) (pol a : Po (El p m mod)))) - pol [0, 1] : Po (El p m mod))
      have hs2 := Po.len_sub (pol (il (Po.rem (Rg.pow Po.X ((pw p m).toNat ^ i.toNat)) (pol a : Po (El p m mod))))) (pol [0, 1] : Po (El p m mod))
      have hs3 : Po.len (pol (il (Po.rem (Rg.pow Po.X ((pw p m).toNat ^ i.toNat)) (pol a : Po (El p m mod)))) : Po (El p m mod)) = Po.len (Po.rem (Rg.pow Po.X ((pw p m).toNat ^ i.toNat)) (pol a : Po (El p m mod))) := by rw [pol_il]
      have hs4 : Po.len (pol [0, 1] : Po (El p m mod)) ≤ 2 := Po.len_le (pol_sh [0, 1])
      refine efT rfl rfl rfl (by first | exact decide_eq_true hs | (rw [decide_eq_true hs]; rfl)) (eCall1 rfl rfl rfl (poly_Gcd g hg B1 _ c1 (il (pol a : Po (El p m mod))) rfl (by omega) B18 _ c18 (il (pol (il (Po.rem (Rg.pow Po.X ((pw p m).toNat ^ i.toNat)) (pol a : Po (El p m mod)))) - pol [0, 1])) rfl (by omega) (.inl (by rw [pol_il]; exact hm0))) ⟨rfl, rfl, rfl, trivial⟩ ?_)
      rintro _ _ ⟨B18a, c18a, rfl, rfl⟩
      have hs5 := il_length (Po.gcd (pol (il (pol a : Po (El p m mod)))) (pol (il (pol (il (Po.rem (Rg.pow Po.X ((pw p m).toNat ^ i.toNat)) (pol a : Po (El p m mod)))) - pol [0, 1] : Po (El p m mod)))) : Po (El p m mod))
      have hs6 := gcd_len (p := p) (m := m) (mod := mod) (f := pol (il (pol (il (Po.rem (Rg.pow Po.X ((pw p m).toNat ^ i.toNat)) (pol a : Po (El p m mod)))) - pol [0, 1] : Po (El p m mod)))) (show (pol (il (pol a : Po (El p m mod))) : Po (El p m mod)) ≠ 0 by rw [pol_il]; exact hm0)
      have hs7 : Po.len (pol (il (pol a : Po (El p m mod))) : Po (El p m mod)) = Po.len (pol a : Po (El p m mod)) := by rw [pol_il]
      refine efT rfl rfl rfl (by first | exact decide_eq_true hs | (rw [decide_eq_true hs]; rfl)) (eCallV rfl rfl rfl (poly_Degree g hg B18a _ c18a (il (Po.gcd (pol (il (pol a : Po (El p m mod)))) (pol (il (pol (il (Po.rem (Rg.pow Po.X ((pw p m).toNat ^ i.toNat)) (pol a : Po (El p m mod)))) - pol [0, 1] : Po (El p m mod)))) : Po (El p m mod))) rfl (by omega)) ⟨rfl, rfl, trivial⟩ ?_)
      refine stT rfl rfl rfl (by first | exact decide_eq_true hs | (rw [decide_eq_true hs]; rfl)) rfl rfl (rGtr rfl rfl rfl) ?_
      refine sV (rPick1 rfl rfl (by first | exact decide_eq_true hs | (rw [decide_eq_true hs]; rfl)) rfl) ?_
      refine tC rfl (fun h18 => ?_) (fun h18 => ?_)
      ·try simp only [zbA] at h18
       refine tS ?_
       refine tR fun _ _ _ => ?_
       iterate 2 refine pV ?_
       rcases Classical.em (((N : Int) / (ps.getD j.toNat (0, 0)).1) = i) with hs3 | hs3
       ·first
         | exact absurd hs3 hs
         | (have hno : irB (pol a : Po (El p m mod)) = false := irr_no hN h1N hps hjl (by rw [hs3]; intro h1; rw [pol_il, pol_il, pol_il, pol_il, pol_X01, gcd_sub_xq hm0, h1, Po.len_one] at h18; omega); exact tr_ret ⟨trivial, _, _, rfl, ⟨by rw [hno], rfl⟩, CSub.nil _, trivial⟩)
       ·exfalso; first | exact hs3 hs | (simp at h18; done) | exact absurd h18 (by simp)
      ·try simp only [zbA] at h18
       refine tK ?_
       refine tR fun _ _ _ => ?_
       refine sV (rAdd rfl rfl rfl (by omega) (by omega)) ?_
       refine pV ?_
       refine ⟨j + 1, ⟨rfl, rfl, rfl, rfl, rfl, rfl, rfl, rfl, rfl, rfl, rfl, rfl, rfl, rfl, trivial⟩, by first | exact cs _ _ | exact CSub.refl _, ?_⟩
       refine ⟨⟨⟨by omega, by omega⟩, fun z hz hq => ?_⟩, by omega⟩
       by_cases hzj : (z : Int) < j
       ·exact hj z hzj hq
       ·have hg1 : Po.len (Po.gcd (pol a : Po (El p m mod)) (xq p m mod i.toNat)) ≤ 1 := by
         rw [pol_il, pol_il, pol_il, pol_il, pol_X01, gcd_sub_xq hm0] at h18
         omega
        exact Po.gcd_one_of hm0 hg1
     ·refine tR fun _ _ _ => ?_
      refine pV ?_
      refine sV (rFld rfl rfl) ?_
      refine sV (rLdF rfl rfl rfl) ?_
      refine sV (rQuo rfl rfl rfl (by omega) (by omega)) ?_
      iterate 3 refine pV ?_
      refine skF rfl rfl (by first | exact decide_eq_false hs | (rw [decide_eq_false hs]; rfl)) rfl rfl ?_
      refine skF rfl rfl (by first | exact decide_eq_false hs | (rw [decide_eq_false hs]; rfl)) rfl rfl ?_
      refine skF rfl rfl (by first | exact decide_eq_false hs | (rw [decide_eq_false hs]; rfl)) rfl rfl ?_
      refine skF rfl rfl (by first | exact decide_eq_false hs | (rw [decide_eq_false hs]; rfl)) rfl rfl ?_
      refine skF rfl rfl (by first | exact decide_eq_false hs | (rw [decide_eq_false hs]; rfl)) rfl rfl ?_
      refine skF rfl rfl (by first | exact decide_eq_false hs | (rw [decide_eq_false hs]; rfl)) rfl rfl ?_
      refine skF rfl rfl (by first | exact decide_eq_false hs | (rw [decide_eq_false hs]; rfl)) rfl rfl ?_
      have hs1 := il_length (pol (il (Po.rem (Rg.pow Po.X ((pw p m).toNat ^ i.toNat)) (pol a : Po (El p m mod)))) - pol [0, 1] : Po (El p m mod))
      have hs2 := Po.len_sub (pol (il (Po.rem (Rg.pow Po.X ((pw p m).toNat ^ i.toNat)) (pol a : Po (El p m mod))))) (pol [0, 1] : Po (El p m mod))
      have hs3 : Po.len (pol (il (Po.rem (Rg.pow Po.X ((pw p m).toNat ^ i.toNat)) (pol a : Po (El p m mod)))) : Po (El p m mod)) = Po.len (Po.rem (Rg.pow Po.X ((pw p m).toNat ^ i.toNat)) (pol a : Po (El p m mod))) := by rw [pol_il]
      have hs4 : Po.len (pol [0, 1] : Po (El p m mod)) ≤ 2 := Po.len_le (pol_sh [0, 1])
      refine skF rfl rfl (by first | exact decide_eq_false hs | (rw [decide_eq_false hs]; rfl)) rfl rfl ?_
      have hs5 := il_length (Po.gcd (pol (il (pol a : Po (El p m mod)))) (pol (il (pol (il (Po.rem (Rg.pow Po.X ((pw p m).toNat ^ i.toNat)) (pol a : Po (El p m mod)))) - pol [0, 1] : Po (El p m mod)))) : Po (El p m mod))
      have hs6 := gcd_len (p := p) (m := m) (mod := mod) (f := pol (il (pol (il (Po.rem (Rg.pow Po.X ((pw p m).toNat ^ i.toNat)) (pol a : Po (El p m mod)))) - pol [0, 1] : Po (El p m mod)))) (show (pol (il (pol a : Po (El p m mod))) : Po (El p m mod)) ≠ 0 by rw [pol_il]; exact hm0)
      have hs7 : Po.len (pol (il (pol a : Po (El p m mod))) : Po (El p m mod)) = Po.len (pol a : Po (El p m mod)) := by rw [pol_il]
      refine skF rfl rfl (by first | exact decide_eq_false hs | (rw [decide_eq_false hs]; rfl)) rfl rfl ?_
      refine skF rfl rfl (by first | exact decide_eq_false hs | (rw [decide_eq_false hs]; rfl)) rfl rfl ?_
      refine sV (rPick0 rfl rfl (by first | exact decide_eq_false hs | (rw [decide_eq_false hs]; rfl)) rfl) ?_
      refine tC rfl (fun h18 => ?_) (fun h18 => ?_)
      ·try simp only [zbA] at h18
       refine tS ?_
       refine tR fun _ _ _ => ?_
       iterate 2 refine pV ?_
       rcases Classical.em (((N : Int) / (ps.getD j.toNat (0, 0)).1) = i) with hs3 | hs3
       ·first
         | exact absurd hs3 hs
         | (have hno : irB (pol a : Po (El p m mod)) = false := irr_no hN h1N hps hjl (by rw [hs3]; intro h1; rw [pol_il, pol_il, pol_il, pol_il, pol_X01, gcd_sub_xq hm0, h1, Po.len_one] at h18; omega); exact tr_ret ⟨trivial, _, _, rfl, ⟨by rw [hno], rfl⟩, CSub.nil _, trivial⟩)
       ·exfalso; first | exact hs3 hs | (simp at h18; done) | exact absurd h18 (by simp)
      ·try simp only [zbA] at h18
       refine tK ?_
       refine tR fun _ _ _ => ?_
       refine sV (rAdd rfl rfl rfl (by omega) (by omega)) ?_
       refine pV ?_
       refine ⟨j + 1, ⟨rfl, rfl, rfl, rfl, rfl, rfl, rfl, rfl, rfl, rfl, rfl, rfl, rfl, rfl, trivial⟩, by first | exact cs _ _ | exact CSub.refl _, ?_⟩
       refine ⟨⟨⟨by omega, by omega⟩, fun z hz hq => ?_⟩, by omega⟩
       by_cases hzj : (z : Int) < j
       ·exact hj z hzj hq
       ·rw [show z = j.toNat by omega] at hq; exact absurd hq hs
    ·try simp only [zbA] at h16
     refine tE ?_
     refine tR fun _ _ _ => ?_
     refine pV ?_
     refine sV (rAdd rfl rfl rfl (by omega) (by omega)) ?_
     refine pV ?_
     refine ⟨i + 1, B14, c14, (Po.rem (Rg.pow Po.X ((pw p m).toNat ^ i.toNat)) (pol a : Po (El p m mod))), ⟨rfl, rfl, rfl, rfl, rfl, rfl, rfl, rfl, trivial⟩, by exact (cs _ [ow B14 3 c14 (ints (il (Po.rem (Rg.pow Po.X ((pw p m).toNat ^ i.toNat)) (pol a : Po (El p m mod))))), ro B9 (ints (il (Po.rem Po.X (pol a : Po (El p m mod))))), ow A8 3 2 (ints [0, 1]), ow2 B7 124 c7 (pws ps), ow B1 3 c1 (ints (il (pol a : Po (El p m mod)))), gfR g]).trans (ow_ro _), ?_⟩
     refine ⟨⟨⟨by omega, by omega⟩, by rw [show (i + 1 - 1).toNat = i.toNat by omega], fun z hz hlt => ?_⟩, by omega⟩
     by_cases hq : ((N : Int) / (ps.getD z (0, 0)).1) = i
     ·rw [hq]; exact hj z (by omega) hq
     ·exact hall z hz (by omega)
   ·try simp only [zbA] at h12
    refine tE ?_
    refine tS ?_
    have hiN : i = N + 1 := by omega
    have hilh := il_length (Po.rem (Rg.pow Po.X ((pw p m).toNat ^ (i - 1).toNat)) (pol a : Po (El p m mod)))
    have hlrh := Po.rem_len (Rg.pow Po.X ((pw p m).toNat ^ (i - 1).toNat)) hm0
    refine tR fun _ _ _ => ?_
    iterate 2 refine pV ?_
    refine eV (eCallV rfl rfl rfl (slc_Equal Bh _ ch (il (Po.rem (Rg.pow Po.X ((pw p m).toNat ^ (i - 1).toNat)) (pol a : Po (El p m mod)))) rfl B9 _ c9 (il (Po.rem Po.X (pol a : Po (El p m mod)))) rfl (by omega)) ⟨rfl, rfl, trivial⟩ ?_)
    iterate 2 refine pV ?_
    have hyes := irr_yes hN h1N hps (fun z hz => hall z hz (by have := nq_le hps h1N hz; omega))
    rw [show (i - 1).toNat = N by omega, hyes]
    exact tr_ret ⟨trivial, _, _, rfl, ⟨rfl, rfl⟩, CSub.nil _, trivial⟩
end Go.Proofs.Ytbhoeaijpnjgdaa

set_option maxRecDepth 100000
namespace Go.Proofs.Ytbhoeaijpnjgdaa
open Go.RowKit
section
variable {p m : Int} {mod : List Int} [hF : IsF p m mod]
theorem pol_X001 : (pol [0, 0, 1] : Po (El p m mod)) = Po.X * Po.X := Po.ext fun j => by
 rw [cf_pol, Po.cf_mn_mul]
 match j with
 | 0 => rw [List.getD_cons_zero, if_pos (by omega), el_zero]
 | 1 => rw [List.getD_cons_succ, List.getD_cons_zero, if_neg (by omega), el_zero, Po.cf_mn, if_neg (by omega), Rg.mul_zero]
 | 2 => rw [List.getD_cons_succ, List.getD_cons_succ, List.getD_cons_zero, if_neg (by omega), Po.cf_mn, if_pos rfl, Rg.mul_one]; exact el_one
 | j + 3 => rw [List.getD_cons_succ, List.getD_cons_succ, List.getD_cons_succ, List.getD_nil, if_neg (by omega), Po.cf_mn, if_neg (by omega), Rg.mul_zero, el_zero]
theorem len_X2 : Po.len (Po.X : Po (El p m mod)) = 2 := Po.len_eq (n := 1) (fun j hj => by rw [Po.cf_mn, if_neg (by omega)]) (by rw [Po.cf_mn, if_pos rfl]; exact Fd.one_ne)
theorem X_ne0 : (Po.X : Po (El p m mod)) ≠ 0 := Po.len_pos_iff.1 (by rw [len_X2]; omega)
theorem ir_X : Po.Ir (Po.X : Po (El p m mod)) := Po.ir_of_no (by rw [len_X2]; omega) fun P hP hd => by
 have h1 := Po.dvd_len hd X_ne0
 have h2 := hP.two
 rw [len_X2] at h1 ⊢
 omega
theorem len_XX : Po.len (Po.X * Po.X : Po (El p m mod)) = 3 := by rw [Po.len_mul X_ne0 X_ne0, len_X2]
theorem not_ir_XX : ¬ Po.Ir (Po.X * Po.X : Po (El p m mod)) := fun h => h.sf Po.X ir_X (Po.dvd_refl _)
end
theorem law06_alive_ent : Enters Try.prog 14 := enters_of Try.func14 (by kernel_rfl) (by kernel_rfl)
theorem law06_alive (g : GfM) {p m : Int} {mod : List Int} [hF : IsF p m mod] (hg : GOk g p m mod) :
  Pure Try.prog 14 #[.pointer (some g.p)] [gfR g] (isV (.bool true)) := by
 refine pure_of (args := [.pointer (some g.p)]) 32 Try.func14 rfl rfl rfl law06_alive_ent ⟨id, trivial⟩ (fun w0 => ?_)
 refine tS ?_
 refine tR fun _ _ _ => ?_
 refine pV ?_
 refine tS ?_
 refine tR fun _ _ _ => ?_
 refine pV ?_
 refine eV (eLit3I rfl rfl rfl rfl rfl rfl (fun A1 => ?_))
 refine eV (eCallV rfl rfl rfl (fac_Irr g hg A1 3 3 [0, 0, 1] rfl (by simp) (by rw [pol_X001, len_XX]; rfl) 2 (by rw [pol_X001, len_XX]) (by omega) [(2, 1)] (by simp) prL_two num_Factor2) ⟨rfl, rfl, trivial⟩ ?_)
 iterate 5 refine pV ?_
 rw [pol_X001, irB_no not_ir_XX]
 refine tS ?_
 refine tR fun _ _ _ => ?_
 refine pV ?_
 refine eV (eLit2I rfl rfl rfl rfl rfl (fun A2 => ?_))
 refine eV (eCallV rfl rfl rfl (fac_Irr g hg A2 2 2 [0, 1] rfl (by simp) (by rw [pol_X01, len_X2]; rfl) 1 (by rw [pol_X01, len_X2]) (by omega) [] (by simp) prL_one num_Factor1) ⟨rfl, rfl, trivial⟩ ?_)
 iterate 5 refine pV ?_
 rw [pol_X01, irB_iff.2 ir_X]
 refine tS ?_
 refine tR fun _ _ _ => ?_
 refine pV ?_
 refine sV (rNotB rfl rfl) ?_
 refine pV ?_
 refine stg rfl rfl rfl rfl rfl (fun hb => by (have hq := hb; try simp only [zbA] at hq); exact rMove rfl rfl) ?_
 refine stg rfl rfl rfl rfl rfl (fun hb => by (have hq := hb; try simp only [zbA] at hq); exact rEql rfl (evg rfl hb) rfl) ?_
 refine sV (rAndB rfl rfl rfl rfl) ?_
 refine pV ?_
 refine stg rfl rfl rfl rfl rfl (fun hb => by (have hq := hb; try simp only [zbA] at hq); exact rMove rfl rfl) ?_
 refine sV (rAndB rfl rfl rfl rfl) ?_
 refine pV ?_
 refine stg rfl rfl rfl rfl rfl (fun hb => by (have hq := hb; try simp only [zbA] at hq); exact rMove rfl rfl) ?_
 refine stg rfl rfl rfl rfl rfl (fun hb => by (have hq := hb; try simp only [zbA] at hq); exact rEql rfl (evg rfl hb) rfl) ?_
 refine sV (rAndB rfl rfl rfl rfl) ?_
 refine pV ?_
 exact tr_ret ⟨trivial, _, _, rfl, ⟨by simp, rfl⟩, CSub.nil _, trivial⟩
end Go.Proofs.Ytbhoeaijpnjgdaa

namespace Go.Proofs.Ytbhoeaijpnjgdaa
open Go.RowKit
section
end
section
end
end Go.Proofs.Ytbhoeaijpnjgdaa

set_option maxRecDepth 100000
namespace Go.Proofs.Ytbhoeaijpnjgdaa
open Go.RowKit
section
end
end Go.Proofs.Ytbhoeaijpnjgdaa

set_option maxRecDepth 100000
namespace Go.Proofs.Ytbhoeaijpnjgdaa
open Go.RowKit
end Go.Proofs.Ytbhoeaijpnjgdaa

namespace Go.Proofs.Ytbhoeaijpnjgdaa
open Go.ChangeShapes Go.WideShapes Go.ChangeAt Go.RowKit Go.Deep
structure FacM where
 r : RowM
 k : Int
def facD : FacM := ⟨rowD, 0⟩
instance : Inhabited FacM := ⟨facD⟩
def fcs (fs : List FacM) : List (Value × Value) := fs.map fun f => (f.r.hdr, .int .i64 f.k)
def rws (fs : List FacM) : List RowM := fs.map FacM.r
@[simp] theorem fcs_length (fs : List FacM) : (fcs fs).length = fs.length := by simp [fcs]
@[simp] theorem rws_length (fs : List FacM) : (rws fs).length = fs.length := by simp [rws]
theorem fcs_get (fs : List FacM) (j : Nat) (h : j < fs.length) : (fcs fs).getD j prD = (.slice (fs.getD j facD).r.A (fs.getD j facD).r.xs.length (fs.getD j facD).r.cap, .int .i64 (fs.getD j facD).k) := by
 unfold fcs
 rw [List.getD_eq_getElem?_getD, List.getElem?_map, List.getD_eq_getElem?_getD, List.getElem?_eq_getElem h]; rfl
theorem fcs_get1 (fs : List FacM) (j : Nat) (h : j < fs.length) : ((fcs fs).getD j prD).1 = .slice (fs.getD j facD).r.A (fs.getD j facD).r.xs.length (fs.getD j facD).r.cap := by rw [fcs_get fs j h]
theorem fcs_get2 (fs : List FacM) (j : Nat) (h : j < fs.length) : ((fcs fs).getD j prD).2 = .int .i64 (fs.getD j facD).k := by rw [fcs_get fs j h]
section
variable {P : Program} {N : NB} {M : Nat → Prop} {w0 : World} {L : Fr} {F : List Chunk} {o : Oper} {x : Operand} {t : TypeId}
theorem rLdG0 {A : Option Addr} {j : Nat} {fs : List FacM} (ho : o.op = .load t x) [h : ScTy P t] (hx : ev L x = some (.pointer (some (((A.getD a0).add (j * 2)).add 0)))) [hr : Rd F A (prs (fcs fs))] (hj : j < fs.length) : Stl P N M w0 o L F (.slice (fs.getD j facD).r.A (fs.getD j facD).r.xs.length (fs.getD j facD).r.cap) := by
 rw [add_add] at hx
 have := rLdT0 (P := P) (N := N) (M := M) (w0 := w0) ho (h := h) hx (hr := hr) (by simpa using hj)
 rwa [fcs_get1 fs j hj] at this
theorem rLdG1 {A : Option Addr} {j : Nat} {fs : List FacM} (ho : o.op = .load t x) [h : ScTy P t] (hx : ev L x = some (.pointer (some (((A.getD a0).add (j * 2)).add 1)))) [hr : Rd F A (prs (fcs fs))] (hj : j < fs.length) : Stl P N M w0 o L F (.int .i64 (fs.getD j facD).k) := by
 rw [add_add] at hx
 have := rLdT1 (P := P) (N := N) (M := M) (w0 := w0) ho (h := h) hx (hr := hr) (by simpa using hj)
 rwa [fcs_get2 fs j hj] at this
end
instance RowIn.fac (fs : List FacM) (i : Nat) [h : InB i fs.length] : RowIn (fs.getD i facD).r (rws fs) := ⟨List.mem_map.2 ⟨_, getD_mem h.lt _, rfl⟩⟩
section
variable {H : Type} {enc : TypeId × Value → H} {P : Program} {w : World} {held : Bool} {t e fp fi : TypeId} {fuel : Nat} {cs : List Value} {x : DataW H × List MemPlace}
theorem open_Facs {f0 f1 : Field} (ht : P.underlying t = some (.slice e)) (he : P.underlying e = some (.struct #[f0, f1])) (ce : P.cellsOf e = 2) (o0 : f0.offset = 0) (o1 : f1.offset = 1) (c0 : P.cellsOf f0.type = 1) (c1 : P.cellsOf f1.type = 1)
  (hp : P.underlying f0.type = some (.slice fi)) (hi : P.underlying fi = some (.int .i64)) (hk : P.underlying f1.type = some (.int .i64)) (hcf : P.cellsOf fi = 1) (hb : P.bytesOf e = 32) (hbf : P.bytesOf fi = 8)
  (hw : Light P t x.1) (h : DataW.trod enc P w 0 (fun _ => true) held fuel t cs = some x) :
  ∃ (A : Option Addr) (c : Nat) (fs : List FacM), cs = [.slice A fs.length c] ∧ (ro A (prs (fcs fs))).sat w ∧ (rowsR (rws fs)).sat w ∧ fs.length ≤ 17592186044415 ∧ ∀ f ∈ fs, f.r.xs.length ≤ 17592186044415 ∧ f.r.xs.length ≤ f.r.cap ∧ Fits f.k := by
 rcases open_slice_pairs ht he ce o0 o1 c0 c1 h with ⟨rfl, _⟩ | ⟨a, len, cap, m, n, V0, V1, D0, D1, P0, P1, rfl, _, hl, hm, hmm, hx, hcell⟩
 ·exact ⟨none, 0, [], rfl, fun j hj => by simp [fcs, prs] at hj, fun r hr => by simp [rws] at hr, by simp, fun r hr => by simp at hr⟩
 ·simp only [if_true] at hmm
  have hxw : ∀ i, i < len → Light P e (.agg [D0 i, D1 i]) := fun i hi k hk => hw k (by
   rw [hx]
   simp only [DataW.weights, ht]
   refine List.mem_cons_of_mem _ (List.mem_append_left _ (mem_weightsAll (d := .agg [D0 i, D1 i]) ?_ k hk))
   exact List.mem_map.2 ⟨i, List.mem_range.2 hi, rfl⟩)
  have hxw0 : ∀ i, i < len → Light P f0.type (D0 i) := fun i hi k hk => hxw i hi k (by
   simp only [DataW.weights, he]
   simp [DataW.weightsEach, hk])
  obtain ⟨R, hR⟩ := choose_lt (α := FacM) (n := len) (p := fun i f => V0 i = f.r.hdr ∧ V1 i = .int .i64 f.k ∧ (ro f.r.A (ints f.r.xs)).sat w ∧ f.r.xs.length ≤ 17592186044415 ∧ f.r.xs.length ≤ f.r.cap ∧ Fits f.k) (fun i hi' => by
   obtain ⟨q1, q2, q3, q4⟩ := hcell i (by omega)
   obtain ⟨A, c, xs, h1, h2, h3, _, h5⟩ := open_ISw hp hi hcf hbf (hxw0 i hi') q3
   obtain ⟨k, h6, h7⟩ := open_I hk q4
   refine ⟨⟨⟨A, c, xs⟩, k⟩, ?_, ?_, h3, h5, h2, h7⟩
   ·simpa [RowM.hdr] using h1
   ·simpa using h6)
  have hlen : ((List.range len).map R).length = len := by simp
  have hmem : ∀ r ∈ (List.range len).map R, ∃ i, i < len ∧ R i = r := fun r hr => by
   obtain ⟨i, hi, rfl⟩ := List.mem_map.1 hr
   exact ⟨i, List.mem_range.1 hi, rfl⟩
  refine ⟨some a, cap, (List.range len).map R, by rw [hlen], fun j hj => ?_, fun r hr => ?_, ?_, fun r hr => ?_⟩
  ·have hj' : j < len * 2 := by simpa using hj
   refine ⟨a, rfl, ?_⟩
   have hjd : j / 2 < len := by omega
   have hg := prs_get (fcs ((List.range len).map R)) (j / 2) (by simpa using hjd)
   have hd : (fcs ((List.range len).map R)).getD (j / 2) prD = ((R (j / 2)).r.hdr, .int .i64 (R (j / 2)).k) := by
    rw [fcs, List.getD_eq_getElem?_getD, List.getElem?_map, List.getElem?_map, List.getElem?_range hjd]; rfl
   rw [hd] at hg
   obtain ⟨q1, q2, _, _⟩ := hcell (j / 2) (by omega)
   rw [(hR _ hjd).1] at q1
   rw [(hR _ hjd).2.1] at q2
   rcases Nat.mod_two_eq_zero_or_one j with e0 | e0
   ·have e1 : j / 2 * 2 = j := by omega
    rw [e1] at hg q1
    rw [q1, ← hg.1, List.getElem?_eq_getElem]
   ·have e1 : j / 2 * 2 + 1 = j := by omega
    rw [e1] at hg q2
    rw [q2, ← hg.2, List.getElem?_eq_getElem]
  ·obtain ⟨f, hf, rfl⟩ := List.mem_map.1 hr
   obtain ⟨i, hi, rfl⟩ := hmem f hf
   exact (hR i hi).2.2.1
  ·have hwt := hw ((((List.range len).map fun i => (.agg [D0 i, D1 i] : DataW H)).length + ((List.range (m - len)).map fun j => (.agg [D0 (len + j), D1 (len + j)] : DataW H)).length) * P.bytesOf e) (by rw [hx]; simp [DataW.weights, ht])
   rw [hb] at hwt
   simp only [List.length_map, List.length_range, reachBytes] at hwt
   rw [hlen]; omega
  ·obtain ⟨i, hi, rfl⟩ := hmem r hr
   exact (hR i hi).2.2.2
end
end Go.Proofs.Ytbhoeaijpnjgdaa

set_option maxRecDepth 100000
namespace Go.Proofs.Ytbhoeaijpnjgdaa
open Go.ChangeShapes Go.WideShapes Go.ChangeAt Go.RowKit
def facTy (P : Program) (e : TypeId) : Bool := match P.underlying e with
 | some (.struct fs) => match fs.toList with
  | [f0, f1] => Nat.beq f0.offset 0 && Nat.beq f1.offset 1 && Nat.beq (P.cellsOf f0.type) 1 && Nat.beq (P.cellsOf f1.type) 1 && (match P.underlying f0.type with
   | some (.slice fi) => Nat.beq (P.cellsOf fi) 1 && Nat.beq (P.bytesOf fi) 8 && (match P.underlying fi with | some (.int .i64) => true | _ => false)
   | _ => false) && (match P.underlying f1.type with | some (.int .i64) => true | _ => false)
  | _ => false
 | _ => false
theorem open_FacsT {H : Type} {enc : TypeId × Value → H} {P : Program} {w : World} {held : Bool} {t e : TypeId} {fuel : Nat} {cs : List Value} {x : DataW H × List MemPlace} (ht : P.underlying t = some (.slice e)) (hf : facTy P e = true) (ce : P.cellsOf e = 2) (hb : P.bytesOf e = 32)
  (hw : Light P t x.1) (h : DataW.trod enc P w 0 (fun _ => true) held fuel t cs = some x) :
  ∃ (A : Option Addr) (c : Nat) (fs : List FacM), cs = [.slice A fs.length c] ∧ (ro A (prs (fcs fs))).sat w ∧ (rowsR (rws fs)).sat w ∧ fs.length ≤ 17592186044415 ∧ ∀ f ∈ fs, f.r.xs.length ≤ 17592186044415 ∧ f.r.xs.length ≤ f.r.cap ∧ Fits f.k := by
 unfold facTy at hf
 split at hf
 ·rename_i fs hu
  split at hf
  ·rename_i f0 f1 hl
   simp only [Bool.and_eq_true] at hf
   obtain ⟨⟨⟨⟨⟨q1, q2⟩, q3⟩, q4⟩, q5⟩, q6⟩ := hf
   split at q5
   ·rename_i fi hp
    simp only [Bool.and_eq_true] at q5
    obtain ⟨⟨q7, q8⟩, q9⟩ := q5
    split at q9
    ·rename_i hi
     split at q6
     ·rename_i hk
      have hu2 : P.underlying e = some (.struct #[f0, f1]) := by
       rw [hu]
       have : fs = #[f0, f1] := by
        apply Array.ext'
        rw [hl]
       rw [this]
      exact open_Facs ht hu2 ce (Nat.eq_of_beq_eq_true q1) (Nat.eq_of_beq_eq_true q2) (Nat.eq_of_beq_eq_true q3) (Nat.eq_of_beq_eq_true q4) hp hi hk (Nat.eq_of_beq_eq_true q7) hb (Nat.eq_of_beq_eq_true q8) hw h
     ·cases q6
    ·cases q9
   ·cases q5
  ·cases hf
 ·cases hf
theorem get_Parts {H : Type} {enc : TypeId × Value → H} {w : World} {b : Nat} {v : Value} {d : DataW H} {p : List MemPlace} (hw : Light Try.prog 40 d) (hv : Value.okWide Try.prog w .any b 40 v) (h : DataW.Trod enc Try.prog w 0 (fun _ => true) true 40 v d p) :
  ∃ (P M : Int) (A : Option Addr) (c : Nat) (mod : List Int) (ld : Int) (X : Option Addr) (cx : Nat) (fs : List FacM), v = .agg #[.int .i64 P, .int .i64 M, .slice A mod.length c, .int .i64 ld, .slice X fs.length cx] ∧ ((ro A (ints mod)).sat w ∧ mod.length ≤ 17592186044415) ∧ (ro X (prs (fcs fs))).sat w ∧ (rowsR (rws fs)).sat w ∧ fs.length ≤ 17592186044415 ∧ ∀ f ∈ fs, f.r.xs.length ≤ 17592186044415 ∧ f.k ≤ 9223372036854775807 ∧ -9223372036854775808 ≤ f.k := by
 obtain ⟨l, rfl, h1, h2⟩ := get_FdW (by kernel_rfl) hw hv h
 have hl : l.length = 5 := h1.trans (by kernel_rfl)
 obtain ⟨nf, yf, hyf, lf⟩ := h2 0 0 24 3 (by kernel_rfl)
 obtain ⟨_, g2⟩ := open_FdW (by kernel_rfl) lf hyf
 obtain ⟨n0, y0, hy0, _⟩ := g2 0 0 3 1 (by kernel_rfl)
 obtain ⟨a0, e0, _⟩ := open_I Try.underlying3 hy0
 obtain ⟨n1, y1, hy1, _⟩ := g2 1 1 3 1 (by kernel_rfl)
 obtain ⟨a1, e1, _⟩ := open_I Try.underlying3 hy1
 obtain ⟨n2, y2, hy2, hl2⟩ := g2 2 2 22 1 (by kernel_rfl)
 obtain ⟨A, c, xs, e2, _, h3, _, h4⟩ := open_ISw Try.underlying22 Try.underlying3 (by kernel_rfl) (by kernel_rfl) hl2 hy2
 obtain ⟨n3, y3, hy3, _⟩ := h2 1 3 3 1 (by kernel_rfl)
 obtain ⟨a3, e3, _⟩ := open_I Try.underlying3 hy3
 obtain ⟨n4, y4, hy4, hl4⟩ := h2 2 4 30 1 (by kernel_rfl)
 obtain ⟨X, k, fs, e4, h5, h6, h7, h8⟩ := open_FacsT (e := 64) (by kernel_rfl) (by kernel_rfl) (by kernel_rfl) (by kernel_rfl) hl4 hy4
 match l, hl with
 | [b0, b1, b2, b3, b4], _ =>
  simp at e0 e1 e2 e3 e4
  exact ⟨a0, a1, A, c, xs, a3, X, k, fs, by rw [e0, e1, e2, e3, e4], ⟨h3, h4⟩, h5, h6, h7, fun f hf => ⟨(h8 f hf).1, (h8 f hf).2.2.2, (h8 f hf).2.2.1⟩⟩
end Go.Proofs.Ytbhoeaijpnjgdaa

set_option maxRecDepth 100000
namespace Go.Proofs.Ytbhoeaijpnjgdaa
open Go.RowKit
instance tyFc : AgTy Try.prog 64 2 := agTy_of (by kernel_rfl)
instance tyFc0 : FdTy Try.prog 64 0 0 := ⟨by kernel_rfl⟩
instance tyFc1 : FdTy Try.prog 64 1 1 := ⟨by kernel_rfl⟩
instance zrFc : ZrTy Try.prog 64 [.slice none 0 0, .int .i64 0] := ⟨.agg #[.slice none 0 0, .int .i64 0], by kernel_rfl, rfl⟩
instance bdFc : BdTy Try.prog 64 [.slice none 0 0, .int .i64 0] [(0, 1), (1, 1)] := bdTy_of (z := .agg #[.slice none 0 0, .int .i64 0]) (by kernel_rfl) (by kernel_rfl) (by kernel_rfl) rfl
instance ssFc : SsTy Try.prog 30 64 2 := ⟨by kernel_rfl, by kernel_rfl⟩
instance s2Fc : S2Ty Try.prog 30 64 32 := ⟨by kernel_rfl, .agg #[.slice none 0 0, .int .i64 0], by kernel_rfl, rfl⟩
instance tySFc : ScTy Try.prog 30 := scTy_of (by kernel_rfl)
def sumF (f : Nat → Int) : Nat → Int
 | 0 => 0
 | n + 1 => sumF f n + f n
theorem sumF_mono {f : Nat → Int} (h : ∀ j, 0 ≤ f j) {a b : Nat} (hab : a ≤ b) : sumF f a ≤ sumF f b := by
 induction b with
 | zero => rw [show a = 0 by omega]; exact Int.le_refl _
 | succ b ih =>
  rcases Nat.lt_or_eq_of_le hab with e | e
  ·have := ih (by omega); have := h b; rw [sumF]; omega
  ·rw [e]; exact Int.le_refl _
theorem sumF_nn {f : Nat → Int} (h : ∀ j, 0 ≤ f j) (n : Nat) : 0 ≤ sumF f n := sumF_mono h (Nat.zero_le n)
section
variable (p m : Int) (mod : List Int) [hF : IsF p m mod]
noncomputable def fcP (f : FacM) : Po (El p m mod) := pol f.r.xs
noncomputable def fcD (f : FacM) : Int := max ((Po.len (fcP p m mod f) : Int) - 1) 0
noncomputable def fcT (fs : List FacM) : Nat → Int := sumF fun j => if j < fs.length then fcD p m mod (fs.getD j facD) * (fs.getD j facD).k else 0
noncomputable def prF (l : Int) (fs : List FacM) : Nat → Po (El p m mod)
 | 0 => Po.C (el l)
 | n + 1 => prF l fs n * Rg.pow (fcP p m mod (fs.getD n facD)) (fs.getD n facD).k.toNat
end
section
variable {p m : Int} {mod : List Int} [hF : IsF p m mod]
theorem fcD_nn (f : FacM) : 0 ≤ fcD p m mod f := by unfold fcD; omega
theorem fcT_nn {fs : List FacM} (h : ∀ f ∈ fs, 0 ≤ f.k) (j : Nat) : 0 ≤ (if j < fs.length then fcD p m mod (fs.getD j facD) * (fs.getD j facD).k else 0 : Int) := by
 split
 ·rename_i hj; exact Int.mul_nonneg (fcD_nn _) (h _ (getD_mem hj _))
 ·exact Int.le_refl _
theorem fcT_mono {fs : List FacM} (h : ∀ f ∈ fs, 0 ≤ f.k) {a b : Nat} (hab : a ≤ b) : fcT p m mod fs a ≤ fcT p m mod fs b := sumF_mono (fcT_nn h) hab
theorem fcT_succ {fs : List FacM} {j : Nat} (hj : j < fs.length) : fcT p m mod fs (j + 1) = fcT p m mod fs j + fcD p m mod (fs.getD j facD) * (fs.getD j facD).k := by
 have e : fcT p m mod fs (j + 1) = fcT p m mod fs j + (if j < fs.length then fcD p m mod (fs.getD j facD) * (fs.getD j facD).k else 0) := rfl
 rw [e, if_pos hj]
theorem len_pow_le {f : Po (El p m mod)} (n : Nat) : Po.len (Rg.pow f n) ≤ n * (Po.len f - 1) + 1 := by
 by_cases hf : f = 0
 ·cases n with
  | zero => rw [show Rg.pow f 0 = 1 from rfl, Po.len_one]; omega
  | succ n => rw [Rg.pow_succ, hf, Rg.mul_zero, Po.len_zero]; omega
 ·rw [len_powN hf]; omega
theorem len_mul_lt (f g : Po (El p m mod)) : Po.len (f * g) ≤ Po.len f + (Po.len g - 1) := by
 by_cases hf : f = 0
 ·rw [hf, Rg.zero_mul, Po.len_zero]; omega
 ·by_cases hg : g = 0
  ·rw [hg, Rg.mul_zero, Po.len_zero]; omega
  ·rw [Po.len_mul hf hg]; omega
theorem prF_len {l : Int} {fs : List FacM} (h : ∀ f ∈ fs, 0 ≤ f.k) : ∀ n, n ≤ fs.length → (Po.len (prF p m mod l fs n) : Int) ≤ fcT p m mod fs n + 1
 | 0, _ => by
  have : Po.len (Po.C (el l) : Po (El p m mod)) ≤ 1 := Po.len_le fun j hj => by rw [show ∀ c : El p m mod, Po.C c = Po.mn c 0 from fun _ => rfl, Po.cf_mn, if_neg (by omega)]
  show (Po.len (Po.C (el l) : Po (El p m mod)) : Int) ≤ 0 + 1
  omega
 | n + 1, hn => by
  have ih := prF_len (l := l) h n (by omega)
  have h1 := len_mul_lt (prF p m mod l fs n) (Rg.pow (fcP p m mod (fs.getD n facD)) (fs.getD n facD).k.toNat)
  have h2 := len_pow_le (f := fcP p m mod (fs.getD n facD)) (fs.getD n facD).k.toNat
  have h3 := h _ (getD_mem (show n < fs.length by omega) facD)
  rw [fcT_succ (by omega), prF]
  have h4 : (((fs.getD n facD).k.toNat * (Po.len (fcP p m mod (fs.getD n facD)) - 1) : Nat) : Int) = fcD p m mod (fs.getD n facD) * (fs.getD n facD).k := by
   unfold fcD
   rw [Int.natCast_mul, Int.toNat_of_nonneg h3, Int.mul_comm]
   congr 1; omega
  omega
theorem const_eq {f : Po (El p m mod)} (h : Po.len f ≤ 1) : f = Po.C (Po.cf f 0) := Po.ext fun j => by
 rw [show ∀ c : El p m mod, Po.C c = Po.mn c 0 from fun _ => rfl, Po.cf_mn]
 by_cases hj : j = 0
 ·rw [if_pos hj, hj]
 ·rw [if_neg hj, Po.cf_ge (by omega)]
theorem C_pow (c : El p m mod) : ∀ n, Rg.pow (Po.C c : Po (El p m mod)) n = Po.C (Rg.pow c n)
 | 0 => rfl
 | n + 1 => by rw [Rg.pow_succ, Rg.pow_succ, C_pow c n, Po.C_mul]
theorem const_mul {f g : Po (El p m mod)} (h : Po.len f ≤ 1) (n : Nat) : g * Rg.pow f n = Po.C (Rg.pow (Po.cf f 0) n) * g := by
 have e : Rg.pow f n = Rg.pow (Po.C (Po.cf f 0)) n := congrArg (fun z => Rg.pow z n) (const_eq h)
 rw [e, C_pow, Rg.mul_comm]
theorem il_zero0 : il (0 : Po (El p m mod)) = [] := List.eq_nil_of_length_eq_zero (by rw [il_length, Po.len_zero])
theorem pol_one_k (l : Int) : (pol [l] : Po (El p m mod)) = Po.C (el l) := Po.ext fun j => by
 rw [cf_pol, show ∀ c : El p m mod, Po.C c = Po.mn c 0 from fun _ => rfl, Po.cf_mn]
 match j with
 | 0 => rw [List.getD_cons_zero, if_pos rfl]
 | j + 1 => rw [List.getD_cons_succ, List.getD_nil, if_neg (by omega), el_zero]
end
end Go.Proofs.Ytbhoeaijpnjgdaa

set_option maxRecDepth 100000
namespace Go.Proofs.Ytbhoeaijpnjgdaa
open Go.RowKit
theorem fac_ProductN_ent : Enters Try.prog 21 := enters_of Try.func21 (by kernel_rfl) (by kernel_rfl)
theorem fac_ProductN (g : GfM) {p m : Int} {mod : List Int} [hF : IsF p m mod] (hg : GOk g p m mod) (ld : Int) (X : Option Addr) (nx cx : Nat) (fs : List FacM) (hnx : nx = fs.length) (hf9 : fs.length ≤ 17592186044415) (hfx : ∀ f ∈ fs, f.r.xs.length ≤ 17592186044415 ∧ f.k ≤ 9223372036854775807 ∧ -9223372036854775808 ≤ f.k) (hneg : ∃ f ∈ fs, f.k < 0) :
  Pure Try.prog 21 #[.pointer (some g.p), .int .i64 ld, .slice X nx cx] [gfR g, ro X (prs (fcs fs)), rowsR (rws fs)] (isV (.tuple #[.slice none 0 0, .int .i64 6])) := by
 refine pure_of (args := [.pointer (some g.p), .int .i64 ld, .slice X nx cx]) 111 Try.func21 rfl rfl rfl fac_ProductN_ent ⟨id, id, id, trivial⟩ (fun w0 => ?_)
 refine tS ?_
 refine tR fun _ _ _ => ?_
 iterate 2 refine pV ?_
 refine tS ?_
 refine tS ?_
 refine tR fun _ _ _ => ?_
 refine pV ?_
 refine sV (rLenS rfl rfl) ?_
 refine pV ?_
 refine tB ?_
 refine tr_loop1 (fun (k : Int) => [(22, .int .i64 k), (0, .pointer (some g.p)), (1, .int .i64 ld), (2, .slice X nx cx), (20, .slice X nx cx), (21, .int .i64 nx)]) (fun (k : Int) => [gfR g, ro X (prs (fcs fs)), rowsR (rws fs)]) (fun (k : Int) => (0 ≤ k ∧ k ≤ nx) ∧ ∀ j : Nat, (j : Int) < k → 0 ≤ (fs.getD j facD).k) (fun (k : Int) => (nx - k).toNat) (0) ⟨rfl, rfl, rfl, rfl, rfl, rfl, trivial⟩ (by first | exact cs _ _ | exact CSub.refl _) (⟨⟨by omega, by omega⟩, fun j hj => by omega⟩) (fun k hI => ?_)
 obtain ⟨⟨hk0, hk1⟩, hall⟩ := hI
 refine tS ?_
 refine tR fun _ _ _ => ?_
 refine pV ?_
 refine tS ?_
 refine tC rfl (fun h2 => ?_) (fun h2 => ?_)
 ·try simp only [zbA] at h2
  refine tK ?_
  refine tS ?_
  refine tB ?_
  refine tS ?_
  have hjl : k.toNat < fs.length := by omega
  have hfe := hfx _ (getD_mem hjl facD)
  refine tR fun _ _ _ => ?_
  refine sV (rIdxT rfl rfl rfl (by omega) (by omega) (by simp; omega)) ?_
  refine sV (rLdT rfl rfl (by simp; omega)) ?_
  refine eV (eAlloc rfl rfl rfl (fun p3 => ?_))
  rw [fcs_get1 fs k.toNat hjl, fcs_get2 fs k.toNat hjl]
  refine eV (eStS rfl rfl rfl rfl rfl rfl ?_)
  refine tS ?_
  refine tR fun _ _ _ => ?_
  refine sV (rFld rfl rfl) ?_
  refine sV (rLdF rfl rfl rfl) ?_
  refine pV ?_
  refine tC rfl (fun h4 => ?_) (fun h4 => ?_)
  ·try simp only [zbA] at h4
   refine tS ?_
   refine tR fun _ _ _ => ?_
   iterate 2 refine pV ?_
   exact tr_ret ⟨trivial, _, _, rfl, ⟨rfl, rfl⟩, CSub.nil _, trivial⟩
  ·try simp only [zbA] at h4
   refine tK ?_
   refine tR fun _ _ _ => ?_
   refine sV (rAdd rfl rfl rfl (by omega) (by omega)) ?_
   refine pV ?_
   refine ⟨k + 1, ⟨rfl, rfl, rfl, rfl, rfl, rfl, trivial⟩, by first | exact cs _ _ | exact CSub.refl _, ?_⟩
   refine ⟨⟨⟨by omega, by omega⟩, fun j hj => ?_⟩, by omega⟩
   by_cases h : (j : Int) < k
   ·exact hall j h
   ·rw [show j = k.toNat by omega]; omega
 ·try simp only [zbA] at h2
  obtain ⟨f, hf, hf0⟩ := hneg
  obtain ⟨j, hj, rfl⟩ := List.getElem_of_mem hf
  have := hall j (by omega)
  rw [List.getD_eq_getElem?_getD, List.getElem?_eq_getElem hj] at this
  simp only [Option.getD_some] at this
  omega --done
theorem fac_ProductB_ent : Enters Try.prog 21 := enters_of Try.func21 (by kernel_rfl) (by kernel_rfl)
theorem fac_ProductB (g : GfM) {p m : Int} {mod : List Int} [hF : IsF p m mod] (hg : GOk g p m mod) (ld : Int) (X : Option Addr) (nx cx : Nat) (fs : List FacM) (hnx : nx = fs.length) (hf9 : fs.length ≤ 17592186044415) (hfx : ∀ f ∈ fs, f.r.xs.length ≤ 17592186044415 ∧ f.k ≤ 9223372036854775807 ∧ -9223372036854775808 ≤ f.k) (hnn : ∀ f ∈ fs, 0 ≤ f.k) (hbig : 256 < fcT p m mod fs fs.length) :
  Pure Try.prog 21 #[.pointer (some g.p), .int .i64 ld, .slice X nx cx] [gfR g, ro X (prs (fcs fs)), rowsR (rws fs)] (isV (.tuple #[.slice none 0 0, .int .i64 8])) := by
 refine pure_of (args := [.pointer (some g.p), .int .i64 ld, .slice X nx cx]) 111 Try.func21 rfl rfl rfl fac_ProductB_ent ⟨id, id, id, trivial⟩ (fun w0 => ?_)
 refine tS ?_
 refine tR fun _ _ _ => ?_
 iterate 2 refine pV ?_
 refine tS ?_
 refine tS ?_
 refine tR fun _ _ _ => ?_
 refine pV ?_
 refine sV (rLenS rfl rfl) ?_
 refine pV ?_
 refine tB ?_
 refine tr_loop1 (fun (k : Int) => [(22, .int .i64 k), (0, .pointer (some g.p)), (1, .int .i64 ld), (2, .slice X nx cx), (20, .slice X nx cx), (21, .int .i64 nx)]) (fun (k : Int) => [gfR g, ro X (prs (fcs fs)), rowsR (rws fs)]) (fun (k : Int) => (0 ≤ k ∧ k ≤ nx) ∧ ∀ j : Nat, (j : Int) < k → 0 ≤ (fs.getD j facD).k) (fun (k : Int) => (nx - k).toNat) (0) ⟨rfl, rfl, rfl, rfl, rfl, rfl, trivial⟩ (by first | exact cs _ _ | exact CSub.refl _) (⟨⟨by omega, by omega⟩, fun j hj => by omega⟩) (fun k hI => ?_)
 obtain ⟨⟨hk0, hk1⟩, hall⟩ := hI
 refine tS ?_
 refine tR fun _ _ _ => ?_
 refine pV ?_
 refine tS ?_
 refine tC rfl (fun h2 => ?_) (fun h2 => ?_)
 ·try simp only [zbA] at h2
  refine tK ?_
  refine tS ?_
  refine tB ?_
  refine tS ?_
  have hjl : k.toNat < fs.length := by omega
  have hfe := hfx _ (getD_mem hjl facD)
  refine tR fun _ _ _ => ?_
  refine sV (rIdxT rfl rfl rfl (by omega) (by omega) (by simp; omega)) ?_
  refine sV (rLdT rfl rfl (by simp; omega)) ?_
  refine eV (eAlloc rfl rfl rfl (fun p3 => ?_))
  rw [fcs_get1 fs k.toNat hjl, fcs_get2 fs k.toNat hjl]
  refine eV (eStS rfl rfl rfl rfl rfl rfl ?_)
  refine tS ?_
  refine tR fun _ _ _ => ?_
  refine sV (rFld rfl rfl) ?_
  refine sV (rLdF rfl rfl rfl) ?_
  refine pV ?_
  refine tC rfl (fun h4 => ?_) (fun h4 => ?_)
  ·try simp only [zbA] at h4
   have := hnn _ (getD_mem hjl facD)
   omega --done
  ·try simp only [zbA] at h4
   refine tK ?_
   refine tR fun _ _ _ => ?_
   refine sV (rAdd rfl rfl rfl (by omega) (by omega)) ?_
   refine pV ?_
   refine ⟨k + 1, ⟨rfl, rfl, rfl, rfl, rfl, rfl, trivial⟩, by first | exact cs _ _ | exact CSub.refl _, ?_⟩
   refine ⟨⟨⟨by omega, by omega⟩, fun j hj => ?_⟩, by omega⟩
   by_cases h : (j : Int) < k
   ·exact hall j h
   ·rw [show j = k.toNat by omega]; omega
 ·try simp only [zbA] at h2
  refine tE ?_
  refine tS ?_
  refine tR fun _ _ _ => ?_
  refine pV ?_
  refine tS ?_
  refine tS ?_
  refine tR fun _ _ _ => ?_
  refine pV ?_
  refine sV (rLenS rfl rfl) ?_
  refine pV ?_
  refine tB ?_
  refine tr_loop2 (fun (k : Int) (s : Int) => [(32, .int .i64 k), (10, .int .i64 s), (0, .pointer (some g.p)), (1, .int .i64 ld), (2, .slice X nx cx), (30, .slice X nx cx), (31, .int .i64 nx)]) (fun (k : Int) (s : Int) => [gfR g, ro X (prs (fcs fs)), rowsR (rws fs)]) (fun (k : Int) (s : Int) => (0 ≤ k ∧ k ≤ nx) ∧ s = fcT p m mod fs k.toNat ∧ s ≤ 256) (fun (k : Int) (s : Int) => (nx - k).toNat) (0) (0) ⟨rfl, rfl, rfl, rfl, rfl, rfl, rfl, trivial⟩ (by first | exact cs _ _ | exact CSub.refl _) (⟨⟨by omega, by omega⟩, rfl, by omega⟩) (fun k s hI => ?_)
  obtain ⟨⟨hk0, hk1⟩, hs, hs9⟩ := hI
  refine tS ?_
  refine tR fun _ _ _ => ?_
  refine pV ?_
  refine tS ?_
  refine tC rfl (fun h9 => ?_) (fun h9 => ?_)
  ·try simp only [zbA] at h9
   refine tK ?_
   refine tS ?_
   refine tB ?_
   refine tS ?_
   have hjl : k.toNat < fs.length := by omega
   have hfe := hfx _ (getD_mem hjl facD)
   have hfk := hnn _ (getD_mem hjl facD)
   refine tR fun _ _ _ => ?_
   refine sV (rIdxT rfl rfl rfl (by omega) (by omega) (by simp; omega)) ?_
   refine sV (rLdT rfl rfl (by simp; omega)) ?_
   refine eV (eAlloc rfl rfl rfl (fun p10 => ?_))
   rw [fcs_get1 fs k.toNat hjl, fcs_get2 fs k.toNat hjl]
   refine eV (eStS rfl rfl rfl rfl rfl rfl ?_)
   refine tS ?_
   haveI : InB k.toNat fs.length := ⟨hjl⟩
   refine tR fun _ _ _ => ?_
   refine pV ?_
   refine sV (rFld rfl rfl) ?_
   refine sV (rLdF rfl rfl rfl) ?_
   refine eV (eCallV rfl rfl rfl (poly_Degree g hg (fs.getD k.toNat facD).r.A _ (fs.getD k.toNat facD).r.cap (fs.getD k.toNat facD).r.xs rfl hfe.1) ⟨rfl, rfl, trivial⟩ ?_)
   refine sV (rMax rfl rfl rfl) ?_
   refine pV ?_
   rw [show max ((Po.len (pol (fs.getD k.toNat facD).r.xs : Po (El p m mod)) : Int) - 1) 0 = (fcD p m mod (fs.getD k.toNat facD)) from rfl]
   refine tS ?_
   refine tS ?_
   have hdn := fcD_nn (p := p) (m := m) (mod := mod) (fs.getD k.toNat facD)
   have hss : 0 ≤ s := by rw [hs]; exact sumF_nn (fcT_nn hnn) _
   have hsuc := fcT_succ (p := p) (m := m) (mod := mod) hjl
   have hq0 : 0 < (fcD p m mod (fs.getD k.toNat facD)) → 0 ≤ (256 - s) / (fcD p m mod (fs.getD k.toNat facD)) := fun h => Int.ediv_nonneg (by omega) (by omega)
   refine tr_draw [0, 1, 2, 3, 4, 5, 6, 7, 8, 9, 10] [] mixed (by kernel_rfl) fun _ _ _ => ?_
   iterate 3 refine pV ?_
   refine stg rfl rfl rfl rfl rfl (fun hb => by (have hq := hb; try simp only [zbA] at hq); exact rFld rfl rfl) ?_
   refine stg rfl rfl rfl rfl rfl (fun hb => by (have hq := hb; try simp only [zbA] at hq); exact rLdF rfl (evg rfl hb) rfl) ?_
   refine stg rfl rfl rfl rfl rfl (fun hb => by (have hq := hb; try simp only [zbA] at hq); exact rMove rfl rfl) ?_
   refine stg rfl rfl rfl rfl rfl (fun hb => by (have hq := hb; try simp only [zbA] at hq); exact rSub rfl rfl (evg rfl hb) (by omega) (by omega)) ?_
   refine stg rfl rfl rfl rfl rfl (fun hb => by (have hq := hb; try simp only [zbA] at hq); exact rMove rfl rfl) ?_
   refine stg rfl rfl rfl rfl rfl (fun hb => by (have hq := hb; try simp only [zbA] at hq); exact rQuo rfl (evg rfl hb) (evg rfl hb) (by omega) (by omega)) ?_
   refine stg rfl rfl rfl rfl rfl (fun hb => by (have hq := hb; try simp only [zbA] at hq); exact rGtr rfl (evg rfl hb) (evg rfl hb)) ?_
   refine sV (rAndB rfl rfl rfl rfl) ?_
   refine tC rfl (fun h12 => ?_) (fun h12 => ?_)
   ·try simp only [zbA] at h12
    refine tS ?_
    refine tR fun _ _ _ => ?_
    iterate 2 refine pV ?_
    exact tr_ret ⟨trivial, _, _, rfl, ⟨rfl, rfl⟩, CSub.nil _, trivial⟩
   ·try simp only [zbA] at h12
    refine tK ?_
    have hmb : 0 ≤ (fcD p m mod (fs.getD k.toNat facD)) * (fs.getD k.toNat facD).k ∧ (fcD p m mod (fs.getD k.toNat facD)) * (fs.getD k.toNat facD).k ≤ 256 - s := by
     refine ⟨Int.mul_nonneg hdn hfk, ?_⟩
     rcases Int.lt_or_eq_of_le hdn with h | h
     ·have h2 : (fs.getD k.toNat facD).k ≤ (256 - s) / (fcD p m mod (fs.getD k.toNat facD)) := by omega
      have h3 := Int.mul_le_of_le_ediv h h2
      rw [Int.mul_comm]; exact h3
     ·rw [← h, Int.zero_mul]; omega
    refine tR fun _ _ _ => ?_
    iterate 2 refine pV ?_
    refine sV (rFld rfl rfl) ?_
    refine sV (rLdF rfl rfl rfl) ?_
    refine sV (rMul rfl rfl rfl (by omega) (by omega)) ?_
    refine sV (rAdd rfl rfl rfl (by omega) (by omega)) ?_
    refine pV ?_
    refine tR fun _ _ _ => ?_
    refine sV (rAdd rfl rfl rfl (by omega) (by omega)) ?_
    refine pV ?_
    refine ⟨k + 1, s + (fcD p m mod (fs.getD k.toNat facD)) * (fs.getD k.toNat facD).k, ⟨rfl, rfl, rfl, rfl, rfl, rfl, rfl, trivial⟩, by first | exact cs _ _ | exact CSub.refl _, ?_⟩
    exact ⟨⟨⟨by omega, by omega⟩, by rw [show (k + 1).toNat = k.toNat + 1 by omega, hsuc, hs], by omega⟩, by omega⟩
  ·try simp only [zbA] at h9
   rw [show k.toNat = fs.length by omega] at hs
   omega --done
theorem fac_Product_ent : Enters Try.prog 21 := enters_of Try.func21 (by kernel_rfl) (by kernel_rfl)
theorem fac_Product (g : GfM) {p m : Int} {mod : List Int} [hF : IsF p m mod] (hg : GOk g p m mod) (ld : Int) (X : Option Addr) (nx cx : Nat) (fs : List FacM) (hnx : nx = fs.length) (hf9 : fs.length ≤ 17592186044415) (hfx : ∀ f ∈ fs, f.r.xs.length ≤ 17592186044415 ∧ f.k ≤ 9223372036854775807 ∧ -9223372036854775808 ≤ f.k) (hnn : ∀ f ∈ fs, 0 ≤ f.k) (hsm : fcT p m mod fs fs.length ≤ 256) :
  Pure Try.prog 21 #[.pointer (some g.p), .int .i64 ld, .slice X nx cx] [gfR g, ro X (prs (fcs fs)), rowsR (rws fs)] (one (fun v ch => ∃ B cap, v = .tuple #[.slice B (il (prF p m mod ld fs fs.length)).length cap, .int .i64 0] ∧ ch = ow B 3 cap (ints (il (prF p m mod ld fs fs.length))))) := by
 have hq2 := hF.q2
 refine pure_of (args := [.pointer (some g.p), .int .i64 ld, .slice X nx cx]) 111 Try.func21 rfl rfl rfl fac_Product_ent ⟨id, id, id, trivial⟩ (fun w0 => ?_)
 refine tS ?_
 refine tR fun _ _ _ => ?_
 iterate 2 refine pV ?_
 refine tS ?_
 refine tS ?_
 refine tR fun _ _ _ => ?_
 refine pV ?_
 refine sV (rLenS rfl rfl) ?_
 refine pV ?_
 refine tB ?_
 refine tr_loop1 (fun (k : Int) => [(22, .int .i64 k), (0, .pointer (some g.p)), (1, .int .i64 ld), (2, .slice X nx cx), (20, .slice X nx cx), (21, .int .i64 nx)]) (fun (k : Int) => [gfR g, ro X (prs (fcs fs)), rowsR (rws fs)]) (fun (k : Int) => (0 ≤ k ∧ k ≤ nx) ∧ ∀ j : Nat, (j : Int) < k → 0 ≤ (fs.getD j facD).k) (fun (k : Int) => (nx - k).toNat) (0) ⟨rfl, rfl, rfl, rfl, rfl, rfl, trivial⟩ (by first | exact cs _ _ | exact CSub.refl _) (⟨⟨by omega, by omega⟩, fun j hj => by omega⟩) (fun k hI => ?_)
 obtain ⟨⟨hk0, hk1⟩, hall⟩ := hI
 refine tS ?_
 refine tR fun _ _ _ => ?_
 refine pV ?_
 refine tS ?_
 refine tC rfl (fun h2 => ?_) (fun h2 => ?_)
 ·try simp only [zbA] at h2
  refine tK ?_
  refine tS ?_
  refine tB ?_
  refine tS ?_
  have hjl : k.toNat < fs.length := by omega
  have hfe := hfx _ (getD_mem hjl facD)
  refine tR fun _ _ _ => ?_
  refine sV (rIdxT rfl rfl rfl (by omega) (by omega) (by simp; omega)) ?_
  refine sV (rLdT rfl rfl (by simp; omega)) ?_
  refine eV (eAlloc rfl rfl rfl (fun p3 => ?_))
  rw [fcs_get1 fs k.toNat hjl, fcs_get2 fs k.toNat hjl]
  refine eV (eStS rfl rfl rfl rfl rfl rfl ?_)
  refine tS ?_
  refine tR fun _ _ _ => ?_
  refine sV (rFld rfl rfl) ?_
  refine sV (rLdF rfl rfl rfl) ?_
  refine pV ?_
  refine tC rfl (fun h4 => ?_) (fun h4 => ?_)
  ·try simp only [zbA] at h4
   have := hnn _ (getD_mem hjl facD)
   omega --done
  ·try simp only [zbA] at h4
   refine tK ?_
   refine tR fun _ _ _ => ?_
   refine sV (rAdd rfl rfl rfl (by omega) (by omega)) ?_
   refine pV ?_
   refine ⟨k + 1, ⟨rfl, rfl, rfl, rfl, rfl, rfl, trivial⟩, by first | exact cs _ _ | exact CSub.refl _, ?_⟩
   refine ⟨⟨⟨by omega, by omega⟩, fun j hj => ?_⟩, by omega⟩
   by_cases h : (j : Int) < k
   ·exact hall j h
   ·rw [show j = k.toNat by omega]; omega
 ·try simp only [zbA] at h2
  refine tE ?_
  refine tS ?_
  refine tR fun _ _ _ => ?_
  refine pV ?_
  refine tS ?_
  refine tS ?_
  refine tR fun _ _ _ => ?_
  refine pV ?_
  refine sV (rLenS rfl rfl) ?_
  refine pV ?_
  refine tB ?_
  refine tr_loop2 (fun (k : Int) (s : Int) => [(32, .int .i64 k), (10, .int .i64 s), (0, .pointer (some g.p)), (1, .int .i64 ld), (2, .slice X nx cx), (30, .slice X nx cx), (31, .int .i64 nx)]) (fun (k : Int) (s : Int) => [gfR g, ro X (prs (fcs fs)), rowsR (rws fs)]) (fun (k : Int) (s : Int) => (0 ≤ k ∧ k ≤ nx) ∧ s = fcT p m mod fs k.toNat ∧ s ≤ 256) (fun (k : Int) (s : Int) => (nx - k).toNat) (0) (0) ⟨rfl, rfl, rfl, rfl, rfl, rfl, rfl, trivial⟩ (by first | exact cs _ _ | exact CSub.refl _) (⟨⟨by omega, by omega⟩, rfl, by omega⟩) (fun k s hI => ?_)
  obtain ⟨⟨hk0, hk1⟩, hs, hs9⟩ := hI
  refine tS ?_
  refine tR fun _ _ _ => ?_
  refine pV ?_
  refine tS ?_
  refine tC rfl (fun h9 => ?_) (fun h9 => ?_)
  ·try simp only [zbA] at h9
   refine tK ?_
   refine tS ?_
   refine tB ?_
   refine tS ?_
   have hjl : k.toNat < fs.length := by omega
   have hfe := hfx _ (getD_mem hjl facD)
   have hfk := hnn _ (getD_mem hjl facD)
   refine tR fun _ _ _ => ?_
   refine sV (rIdxT rfl rfl rfl (by omega) (by omega) (by simp; omega)) ?_
   refine sV (rLdT rfl rfl (by simp; omega)) ?_
   refine eV (eAlloc rfl rfl rfl (fun p10 => ?_))
   rw [fcs_get1 fs k.toNat hjl, fcs_get2 fs k.toNat hjl]
   refine eV (eStS rfl rfl rfl rfl rfl rfl ?_)
   refine tS ?_
   haveI : InB k.toNat fs.length := ⟨hjl⟩
   refine tR fun _ _ _ => ?_
   refine pV ?_
   refine sV (rFld rfl rfl) ?_
   refine sV (rLdF rfl rfl rfl) ?_
   refine eV (eCallV rfl rfl rfl (poly_Degree g hg (fs.getD k.toNat facD).r.A _ (fs.getD k.toNat facD).r.cap (fs.getD k.toNat facD).r.xs rfl hfe.1) ⟨rfl, rfl, trivial⟩ ?_)
   refine sV (rMax rfl rfl rfl) ?_
   refine pV ?_
   rw [show max ((Po.len (pol (fs.getD k.toNat facD).r.xs : Po (El p m mod)) : Int) - 1) 0 = (fcD p m mod (fs.getD k.toNat facD)) from rfl]
   refine tS ?_
   refine tS ?_
   have hdn := fcD_nn (p := p) (m := m) (mod := mod) (fs.getD k.toNat facD)
   have hss : 0 ≤ s := by rw [hs]; exact sumF_nn (fcT_nn hnn) _
   have hsuc := fcT_succ (p := p) (m := m) (mod := mod) hjl
   have hq0 : 0 < (fcD p m mod (fs.getD k.toNat facD)) → 0 ≤ (256 - s) / (fcD p m mod (fs.getD k.toNat facD)) := fun h => Int.ediv_nonneg (by omega) (by omega)
   refine tr_draw [0, 1, 2, 3, 4, 5, 6, 7, 8, 9, 10] [] mixed (by kernel_rfl) fun _ _ _ => ?_
   iterate 3 refine pV ?_
   refine stg rfl rfl rfl rfl rfl (fun hb => by (have hq := hb; try simp only [zbA] at hq); exact rFld rfl rfl) ?_
   refine stg rfl rfl rfl rfl rfl (fun hb => by (have hq := hb; try simp only [zbA] at hq); exact rLdF rfl (evg rfl hb) rfl) ?_
   refine stg rfl rfl rfl rfl rfl (fun hb => by (have hq := hb; try simp only [zbA] at hq); exact rMove rfl rfl) ?_
   refine stg rfl rfl rfl rfl rfl (fun hb => by (have hq := hb; try simp only [zbA] at hq); exact rSub rfl rfl (evg rfl hb) (by omega) (by omega)) ?_
   refine stg rfl rfl rfl rfl rfl (fun hb => by (have hq := hb; try simp only [zbA] at hq); exact rMove rfl rfl) ?_
   refine stg rfl rfl rfl rfl rfl (fun hb => by (have hq := hb; try simp only [zbA] at hq); exact rQuo rfl (evg rfl hb) (evg rfl hb) (by omega) (by omega)) ?_
   refine stg rfl rfl rfl rfl rfl (fun hb => by (have hq := hb; try simp only [zbA] at hq); exact rGtr rfl (evg rfl hb) (evg rfl hb)) ?_
   refine sV (rAndB rfl rfl rfl rfl) ?_
   refine tC rfl (fun h12 => ?_) (fun h12 => ?_)
   ·try simp only [zbA] at h12
    have h2 := h12.2
    have h3 := Int.lt_mul_of_ediv_lt h12.1 h2
    rw [Int.mul_comm] at h3
    have := fcT_mono (p := p) (m := m) (mod := mod) hnn (show k.toNat + 1 ≤ fs.length by omega)
    omega --done
   ·try simp only [zbA] at h12
    refine tK ?_
    have hmb : 0 ≤ (fcD p m mod (fs.getD k.toNat facD)) * (fs.getD k.toNat facD).k ∧ (fcD p m mod (fs.getD k.toNat facD)) * (fs.getD k.toNat facD).k ≤ 256 - s := by
     refine ⟨Int.mul_nonneg hdn hfk, ?_⟩
     rcases Int.lt_or_eq_of_le hdn with h | h
     ·have h2 : (fs.getD k.toNat facD).k ≤ (256 - s) / (fcD p m mod (fs.getD k.toNat facD)) := by omega
      have h3 := Int.mul_le_of_le_ediv h h2
      rw [Int.mul_comm]; exact h3
     ·rw [← h, Int.zero_mul]; omega
    refine tR fun _ _ _ => ?_
    iterate 2 refine pV ?_
    refine sV (rFld rfl rfl) ?_
    refine sV (rLdF rfl rfl rfl) ?_
    refine sV (rMul rfl rfl rfl (by omega) (by omega)) ?_
    refine sV (rAdd rfl rfl rfl (by omega) (by omega)) ?_
    refine pV ?_
    refine tR fun _ _ _ => ?_
    refine sV (rAdd rfl rfl rfl (by omega) (by omega)) ?_
    refine pV ?_
    refine ⟨k + 1, s + (fcD p m mod (fs.getD k.toNat facD)) * (fs.getD k.toNat facD).k, ⟨rfl, rfl, rfl, rfl, rfl, rfl, rfl, trivial⟩, by first | exact cs _ _ | exact CSub.refl _, ?_⟩
    exact ⟨⟨⟨by omega, by omega⟩, by rw [show (k + 1).toNat = k.toNat + 1 by omega, hsuc, hs], by omega⟩, by omega⟩
  ·try simp only [zbA] at h9
   refine tE ?_
   refine tS ?_
   refine tR fun _ _ _ => ?_
   iterate 2 refine pV ?_
   refine eV (eLit1I rfl rfl rfl rfl (fun A16 => ?_))
   refine eV (eCall1 rfl rfl rfl (poly_CanonE g hg A16 1 1 [ld] rfl (by simp)) ⟨rfl, rfl, trivial⟩ ?_)
   rintro _ _ ⟨B16, c16, rfl, hc16, rfl⟩
   refine pV ?_
   refine tS ?_
   refine tS ?_
   have hp0 : (pol [ld] : Po (El p m mod)) = (prF p m mod ld fs 0) := pol_one_k ld
   rw [hp0]
   refine tR fun _ _ _ => ?_
   refine pV ?_
   refine sV (rLenS rfl rfl) ?_
   refine pV ?_
   refine tB ?_
   refine tr_loop4 (fun (k : Int) (B : Option Addr) (cb : Nat) (l : List Int) => [(65, .int .i64 k), (14, .slice B l.length cb), (0, .pointer (some g.p)), (63, .slice X nx cx), (64, .int .i64 nx)]) (fun (k : Int) (B : Option Addr) (cb : Nat) (l : List Int) => [ow B 3 cb (ints l), gfR g, ro X (prs (fcs fs)), rowsR (rws fs)]) (fun (k : Int) (B : Option Addr) (cb : Nat) (l : List Int) => (0 ≤ k ∧ k ≤ nx) ∧ l = il (prF p m mod ld fs k.toNat)) (fun (k : Int) (B : Option Addr) (cb : Nat) (l : List Int) => (nx - k).toNat) (0) (B16) (c16) (il (prF p m mod ld fs 0)) ⟨rfl, rfl, rfl, rfl, rfl, trivial⟩ (by first | exact cs _ _ | exact CSub.refl _) (⟨⟨by omega, by omega⟩, rfl⟩) (fun k B cb l hI => ?_)
   obtain ⟨⟨hk0, hk1⟩, rfl⟩ := hI
   refine tS ?_
   refine tR fun _ _ _ => ?_
   refine pV ?_
   refine tS ?_
   refine tC rfl (fun h18 => ?_) (fun h18 => ?_)
   ·try simp only [zbA] at h18
    refine tK ?_
    refine tS ?_
    refine tB ?_
    refine tS ?_
    have hjl : k.toNat < fs.length := by omega
    have hfe := hfx _ (getD_mem hjl facD)
    have hfk := hnn _ (getD_mem hjl facD)
    have hplen := prF_len (p := p) (m := m) (mod := mod) (l := ld) hnn k.toNat (by omega)
    have htk := fcT_mono (p := p) (m := m) (mod := mod) hnn (show k.toNat + 1 ≤ fs.length by omega)
    have hsuc := fcT_succ (p := p) (m := m) (mod := mod) hjl
    have hnxt : (prF p m mod ld fs (k + 1).toNat) = (prF p m mod ld fs k.toNat) * Rg.pow (fcP p m mod (fs.getD k.toNat facD)) (fs.getD k.toNat facD).k.toNat := by rw [show (k + 1).toNat = k.toNat + 1 by omega]; rfl
    have hdk : 0 ≤ (fcD p m mod (fs.getD k.toNat facD)) * (fs.getD k.toNat facD).k := Int.mul_nonneg (fcD_nn _) hfk
    have hilp := il_length (prF p m mod ld fs k.toNat)
    refine tR fun _ _ _ => ?_
    refine sV (rIdxT rfl rfl rfl (by omega) (by omega) (by simp; omega)) ?_
    refine sV (rLdT rfl rfl (by simp; omega)) ?_
    refine eV (eAlloc rfl rfl rfl (fun p19 => ?_))
    rw [fcs_get1 fs k.toNat hjl, fcs_get2 fs k.toNat hjl]
    refine eV (eStS rfl rfl rfl rfl rfl rfl ?_)
    refine tS ?_
    haveI : InB k.toNat fs.length := ⟨hjl⟩
    refine tR fun _ _ _ => ?_
    refine pV ?_
    refine sV (rFld rfl rfl) ?_
    refine sV (rLdF rfl rfl rfl) ?_
    refine eV (eCall1 rfl rfl rfl (poly_CanonE g hg (fs.getD k.toNat facD).r.A _ (fs.getD k.toNat facD).r.cap (fs.getD k.toNat facD).r.xs rfl hfe.1) ⟨rfl, rfl, trivial⟩ ?_)
    rintro _ _ ⟨B20, c20, rfl, hc20, rfl⟩
    refine pV ?_
    refine tB ?_
    refine tS ?_
    have hilf := il_length (pol (fs.getD k.toNat facD).r.xs : Po (El p m mod))
    refine tR fun _ _ _ => ?_
    refine sV (rFld rfl rfl) ?_
    refine sV (rLdF rfl rfl rfl) ?_
    iterate 2 refine pV ?_
    refine tC rfl (fun h25 => ?_) (fun h25 => ?_)
    ·try simp only [zbA] at h25
     refine tK ?_
     refine tR fun _ _ _ => ?_
     refine sV (rAdd rfl rfl rfl (by omega) (by omega)) ?_
     refine pV ?_
     refine ⟨k + 1, B, cb, il (prF p m mod ld fs k.toNat), ⟨rfl, rfl, rfl, rfl, rfl, trivial⟩, by first | exact cs _ _ | exact CSub.refl _, ?_⟩
     exact ⟨⟨⟨by omega, by omega⟩, by rw [hnxt, show (fs.getD k.toNat facD).k.toNat = 0 by omega, show Rg.pow (fcP p m mod (fs.getD k.toNat facD)) 0 = 1 from rfl, Rg.mul_one]⟩, by omega⟩
    ·try simp only [zbA] at h25
     refine tS ?_
     refine tR fun _ _ _ => ?_
     refine pV ?_
     refine sV (rLen rfl rfl) ?_
     iterate 2 refine pV ?_
     refine tC rfl (fun h26 => ?_) (fun h26 => ?_)
     ·try simp only [zbA] at h26
      refine tr_nilI 3 ?_
      refine tR fun _ _ _ => ?_
      refine pV ?_
      refine tR fun _ _ _ => ?_
      refine sV (rAdd rfl rfl rfl (by omega) (by omega)) ?_
      refine pV ?_
      refine ⟨k + 1, none, 0, [], ⟨rfl, rfl, rfl, rfl, rfl, trivial⟩, by first | exact cs _ _ | exact CSub.refl _, ?_⟩
      refine ⟨⟨⟨by omega, by omega⟩, ?_⟩, by omega⟩
      have hz : (fcP p m mod (fs.getD k.toNat facD)) = 0 := Po.eq_zero_of_len (by show Po.len (pol (fs.getD k.toNat facD).r.xs : Po (El p m mod)) = 0; omega)
      obtain ⟨e, he⟩ : ∃ e, (fs.getD k.toNat facD).k.toNat = e + 1 := ⟨(fs.getD k.toNat facD).k.toNat - 1, by omega⟩
      rw [hnxt, he, hz, Rg.pow_succ, Rg.mul_zero, Rg.mul_zero, il_zero0]
     ·try simp only [zbA] at h26
      refine tS ?_
      refine tR fun _ _ _ => ?_
      refine pV ?_
      refine sV (rLen rfl rfl) ?_
      iterate 2 refine pV ?_
      refine tC rfl (fun h28 => ?_) (fun h28 => ?_)
      ·try simp only [zbA] at h28
       refine tS ?_
       have hc1 : Po.len (fcP p m mod (fs.getD k.toNat facD)) ≤ 1 := by show Po.len (pol (fs.getD k.toNat facD).r.xs : Po (El p m mod)) ≤ 1; omega
       have hcm := const_mul (g := (prF p m mod ld fs k.toNat)) hc1 (fs.getD k.toNat facD).k.toNat
       refine tr_draw [0, 1, 2, 3, 4, 5, 6, 7, 8, 9, 10, 11] [] mixed (by kernel_rfl) fun _ _ _ => ?_
       iterate 2 refine pV ?_
       refine sV (rIdxI rfl rfl rfl (by omega) (by omega) (by omega)) ?_
       refine sV (rLdI rfl rfl (by omega)) ?_
       refine sV (rFld rfl rfl) ?_
       refine sV (rLdF rfl rfl rfl) ?_
       refine eV (eCallV rfl rfl rfl (gf_PowE g hg ((il (pol (fs.getD k.toNat facD).r.xs : Po (El p m mod))).getD (Int.toNat 0) 0) (fs.getD k.toNat facD).k hfk (by omega)) ⟨rfl, rfl, rfl, trivial⟩ ?_)
       iterate 5 refine pV ?_
       refine tR fun _ _ _ => ?_
       iterate 3 refine pV ?_
       refine eV (eCall1 rfl rfl rfl (poly_Scale g hg (Rg.pow (el ((il (pol (fs.getD k.toNat facD).r.xs : Po (El p m mod))).getD (Int.toNat 0) 0) : El p m mod) (fs.getD k.toNat facD).k.toNat).1 B _ cb (il (prF p m mod ld fs k.toNat)) rfl (by omega)) ⟨rfl, rfl, rfl, trivial⟩ ?_)
       rintro _ _ ⟨B30, c30, rfl, rfl⟩
       refine pV ?_
       rw [il_getD, show Int.toNat 0 = 0 from rfl, el_of, el_of, pol_il, ← show (prF p m mod ld fs (k + 1).toNat) = Po.C (Rg.pow (Po.cf (pol (fs.getD k.toNat facD).r.xs : Po (El p m mod)) 0) (fs.getD k.toNat facD).k.toNat) * (prF p m mod ld fs k.toNat) from hnxt.trans hcm]
       refine tR fun _ _ _ => ?_
       refine sV (rAdd rfl rfl rfl (by omega) (by omega)) ?_
       refine pV ?_
       refine ⟨k + 1, B30, c30, il (prF p m mod ld fs (k + 1).toNat), ⟨rfl, rfl, rfl, rfl, rfl, trivial⟩, by first | exact cs _ _ | exact CSub.refl _, ?_⟩
       exact ⟨⟨⟨by omega, by omega⟩, rfl⟩, by omega⟩
      ·try simp only [zbA] at h28
       refine tS ?_
       refine tR fun _ _ _ => ?_
       refine sV (rFld rfl rfl) ?_
       refine sV (rLdF rfl rfl rfl) ?_
       refine pV ?_
       refine tB ?_
       refine tr_loop4 (fun (e : Int) (B2 : Option Addr) (cb2 : Nat) (l2 : List Int) => [(75, .int .i64 e), (14, .slice B2 l2.length cb2), (74, .int .i64 (fs.getD k.toNat facD).k), (0, .pointer (some g.p)), (16, .pointer (some p19)), (17, .slice B20 (il (pol (fs.getD k.toNat facD).r.xs : Po (El p m mod))).length c20), (63, .slice X nx cx), (64, .int .i64 nx), (65, .int .i64 k), (69, .pointer (some g.p)), (72, .slice B20 (il (pol (fs.getD k.toNat facD).r.xs : Po (El p m mod))).length c20), (88, .slice B20 (il (pol (fs.getD k.toNat facD).r.xs : Po (El p m mod))).length c20), (92, .slice B20 (il (pol (fs.getD k.toNat facD).r.xs : Po (El p m mod))).length c20)]) (fun (e : Int) (B2 : Option Addr) (cb2 : Nat) (l2 : List Int) => [ow B2 3 cb2 (ints l2), ow B20 3 c20 (ints (il (pol (fs.getD k.toNat facD).r.xs : Po (El p m mod)))), gfR g, ro X (prs (fcs fs)), rowsR (rws fs)]) (fun (e : Int) (B2 : Option Addr) (cb2 : Nat) (l2 : List Int) => (0 ≤ e ∧ e ≤ (fs.getD k.toNat facD).k) ∧ l2 = il ((prF p m mod ld fs k.toNat) * Rg.pow (fcP p m mod (fs.getD k.toNat facD)) e.toNat)) (fun (e : Int) (B2 : Option Addr) (cb2 : Nat) (l2 : List Int) => ((fs.getD k.toNat facD).k - e).toNat) (0) (B) (cb) (il (prF p m mod ld fs k.toNat)) ⟨rfl, rfl, rfl, rfl, rfl, rfl, rfl, rfl, rfl, rfl, rfl, rfl, rfl, trivial⟩ (by first | exact cs _ _ | exact CSub.refl _) (⟨⟨by omega, by omega⟩, by rw [show Int.toNat 0 = 0 from rfl, show Rg.pow (fcP p m mod (fs.getD k.toNat facD)) 0 = 1 from rfl, Rg.mul_one]⟩) (fun e B2 cb2 l2 hI => ?_)
       obtain ⟨⟨he0, he1⟩, hl2e⟩ := hI
       refine tS ?_
       refine tR fun _ _ _ => ?_
       refine pV ?_
       refine tS ?_
       refine tC rfl (fun h22 => ?_) (fun h22 => ?_)
       ·try simp only [zbA] at h22
        refine tK ?_
        refine tS ?_
        refine tB ?_
        refine tR fun _ _ _ => ?_
        iterate 3 refine pV ?_
        refine eV (eLit2R l2 (il (pol (fs.getD k.toNat facD).r.xs : Po (El p m mod))) rfl rfl rfl rfl rfl (fun A23 => ?_))
        have hke : (e + 1).toNat = e.toNat + 1 := by omega
        have hEb : ∀ z : Nat, (z : Int) ≤ (fs.getD k.toNat facD).k → (Po.len ((prF p m mod ld fs k.toNat) * Rg.pow (fcP p m mod (fs.getD k.toNat facD)) z) : Int) ≤ 257 := fun z hz => by
         have h1 := len_mul_lt ((prF p m mod ld fs k.toNat)) (Rg.pow (fcP p m mod (fs.getD k.toNat facD)) z)
         have h2 := len_pow_le (f := (fcP p m mod (fs.getD k.toNat facD))) z
         have h4 : ((z * (Po.len (fcP p m mod (fs.getD k.toNat facD)) - 1) : Nat) : Int) ≤ (fcD p m mod (fs.getD k.toNat facD)) * (fs.getD k.toNat facD).k := by
          have h5 : ((Po.len (fcP p m mod (fs.getD k.toNat facD)) - 1 : Nat) : Int) = (fcD p m mod (fs.getD k.toNat facD)) := by unfold fcD; omega
          rw [Int.natCast_mul, h5, Int.mul_comm]
          exact Int.mul_le_mul_of_nonneg_left hz (fcD_nn _)
         omega
        have hl2l : l2.length ≤ 257 := by
         have := hEb e.toNat (by omega)
         rw [hl2e, il_length]; omega
        have hml : prP p m mod [⟨B2, cb2, l2⟩, ⟨B20, c20, (il (pol (fs.getD k.toNat facD).r.xs : Po (El p m mod)))⟩] = (prF p m mod ld fs k.toNat) * Rg.pow (fcP p m mod (fs.getD k.toNat facD)) (e + 1).toNat := by
         show 1 * pol l2 * pol (il (pol (fs.getD k.toNat facD).r.xs : Po (El p m mod))) = _
         rw [hl2e, pol_il, pol_il, Rg.one_mul, hke, Rg.pow_succ, Rg.mul_assoc]; rfl
        have hcl : (il (pol (fs.getD k.toNat facD).r.xs : Po (El p m mod))).length ≤ 1000000 := by
         have h5 : ((Po.len (fcP p m mod (fs.getD k.toNat facD)) - 1 : Nat) : Int) = (fcD p m mod (fs.getD k.toNat facD)) := by unfold fcD; omega
         have h6 : Po.len (fcP p m mod (fs.getD k.toNat facD)) = (il (pol (fs.getD k.toNat facD).r.xs : Po (El p m mod))).length := by rw [il_length]; rfl
         have h7 : (fcD p m mod (fs.getD k.toNat facD)) * 1 ≤ (fcD p m mod (fs.getD k.toNat facD)) * (fs.getD k.toNat facD).k := Int.mul_le_mul_of_nonneg_left (by omega) (fcD_nn _)
         have h8 := sumF_nn (fcT_nn (p := p) (m := m) (mod := mod) hnn) k.toNat
         have h9 : 0 ≤ fcT p m mod fs k.toNat := h8
         omega
        have hl2 : ∀ z, z < ([⟨B2, cb2, l2⟩, ⟨B20, c20, (il (pol (fs.getD k.toNat facD).r.xs : Po (El p m mod)))⟩] : List RowM).length → ((([⟨B2, cb2, l2⟩, ⟨B20, c20, (il (pol (fs.getD k.toNat facD).r.xs : Po (El p m mod)))⟩] : List RowM)).getD z rowD).xs.length ≤ 1000000 := fun z hz => by
         match z, hz with
         | 0, _ => exact Nat.le_trans hl2l (by omega)
         | 1, _ => exact hcl
         | z + 2, hz => exact absurd hz (by simp)
        have hp2_ : ∀ z, z ≤ ([⟨B2, cb2, l2⟩, ⟨B20, c20, (il (pol (fs.getD k.toNat facD).r.xs : Po (El p m mod)))⟩] : List RowM).length → Po.len (prP p m mod (([⟨B2, cb2, l2⟩, ⟨B20, c20, (il (pol (fs.getD k.toNat facD).r.xs : Po (El p m mod)))⟩] : List RowM).take z)) ≤ 1000000 := fun z hz => by
         match z, hz with
         | 0, _ => show Po.len (1 : Po (El p m mod)) ≤ _; rw [Po.len_one]; omega
         | 1, _ =>
          show Po.len (1 * pol l2 : Po (El p m mod)) ≤ _
          have := Po.len_le (pol_sh (p := p) (m := m) (mod := mod) l2)
          rw [Rg.one_mul]; omega
         | 2, _ =>
          show Po.len (prP p m mod [⟨B2, cb2, l2⟩, ⟨B20, c20, (il (pol (fs.getD k.toNat facD).r.xs : Po (El p m mod)))⟩]) ≤ _
          have := hEb (e + 1).toNat (by omega)
          rw [hml]; omega
         | z + 3, hz => exact absurd hz (by simp)
        refine eV (eCall1 rfl rfl rfl (poly_Mul g hg A23 2 2 [⟨B2, cb2, l2⟩, ⟨B20, c20, (il (pol (fs.getD k.toNat facD).r.xs : Po (El p m mod)))⟩] rfl (by simp) hl2 hp2_) ⟨rfl, rfl, trivial⟩ ?_)
        rintro _ _ ⟨B23, c23, rfl, rfl⟩
        refine pV ?_
        rw [hml]
        refine tR fun _ _ _ => ?_
        refine sV (rAdd rfl rfl rfl (by omega) (by omega)) ?_
        refine pV ?_
        refine ⟨e + 1, B23, c23, il ((prF p m mod ld fs k.toNat) * Rg.pow (fcP p m mod (fs.getD k.toNat facD)) (e + 1).toNat), ⟨rfl, rfl, rfl, rfl, rfl, rfl, rfl, rfl, rfl, rfl, rfl, rfl, rfl, trivial⟩, by first | exact cs _ _ | exact CSub.refl _, ?_⟩
        exact ⟨⟨⟨by omega, by omega⟩, rfl⟩, by omega⟩
       ·try simp only [zbA] at h22
        refine tE ?_
        refine tR fun _ _ _ => ?_
        refine sV (rAdd rfl rfl rfl (by omega) (by omega)) ?_
        refine pV ?_
        refine ⟨k + 1, B2, cb2, l2, ⟨rfl, rfl, rfl, rfl, rfl, trivial⟩, by first | exact cs _ _ | exact CSub.refl _, ?_⟩
        exact ⟨⟨⟨by omega, by omega⟩, by rw [hnxt, hl2e, show e.toNat = (fs.getD k.toNat facD).k.toNat by omega]⟩, by omega⟩
   ·try simp only [zbA] at h18
    refine tE ?_
    refine tS ?_
    refine tR fun _ _ _ => ?_
    iterate 3 refine pV ?_
    have hkn : k.toNat = fs.length := by omega
    rw [hkn]
    exact tr_ret ⟨trivial, _, _, rfl, ⟨_, rfl, B, cb, rfl, rfl⟩, cs _ _, trivial, trivial⟩
end Go.Proofs.Ytbhoeaijpnjgdaa

set_option maxRecDepth 100000
namespace Go.Proofs.Ytbhoeaijpnjgdaa
open Go.RowKit
theorem ref_PMulL_ent : Enters Try.prog 60 := enters_of Try.func60 (by kernel_rfl) (by kernel_rfl)
theorem ref_PMulL (p m : Int) (A : Option Addr) (c : Nat) (mod : List Int) [hF : IsF p m mod] (B : Option Addr) (nb d : Nat) (a : List Int) (hnb : nb = a.length) (ha9 : a.length ≤ 1000000000) (C : Option Addr) (nc e : Nat) (b : List Int) (hnc : nc = b.length) (hb9 : b.length ≤ 17592186044415) (hbl : (il (pol b : Po (El p m mod))).length ≤ 1000000000) :
  Pure Try.prog 60 #[.agg #[.int .i64 p, .int .i64 m, .slice A mod.length c], .slice B nb d, .slice C nc e] [ro A (ints mod), ro B (ints a), ro C (ints b)] (one (fun v ch => ∃ B cap, v = .slice B (il ((pol a : Po (El p m mod)) * (pol b : Po (El p m mod)))).length cap ∧ ch = ow B 3 cap (ints (il ((pol a : Po (El p m mod)) * (pol b : Po (El p m mod))))))) := by
 have hq2 := hF.q2
 have hla := il_le (p := p) (m := m) (mod := mod) a
 have hlb := il_le (p := p) (m := m) (mod := mod) b
 refine pure_of (args := [.agg #[.int .i64 p, .int .i64 m, .slice A mod.length c], .slice B nb d, .slice C nc e]) 60 Try.func60 rfl rfl rfl ref_PMulL_ent ⟨id, id, id, trivial⟩ (fun w0 => ?_)
 refine tS ?_
 refine tR fun _ _ _ => ?_
 refine eV (eBox rfl rfl rfl rfl rfl (fun p0 => ?_))
 refine pV ?_
 refine tS ?_
 refine tR fun _ _ _ => ?_
 refine sV (rLdS rfl rfl rfl) ?_
 refine pV ?_
 refine eV (eCall1 rfl rfl rfl (ref_CanonE _ _ _ _ _ _ _ _ _ (by first | omega | rfl | simp) (by omega)) ⟨rfl, rfl, trivial⟩ ?_)
 rintro _ _ ⟨B1, c1, rfl, rfl⟩
 refine pV ?_
 refine tS ?_
 refine tR fun _ _ _ => ?_
 refine sV (rLdS rfl rfl rfl) ?_
 refine pV ?_
 refine eV (eCall1 rfl rfl rfl (ref_CanonE _ _ _ _ _ _ _ _ _ (by first | omega | rfl | simp) (by omega)) ⟨rfl, rfl, trivial⟩ ?_)
 rintro _ _ ⟨B2, c2, rfl, rfl⟩
 refine pV ?_
 refine tS ?_
 refine tR fun _ _ _ => ?_
 refine pV ?_
 refine sV (rLen rfl rfl) ?_
 refine pV ?_
 refine sV (rLen rfl rfl) ?_
 refine sV (rAdd rfl rfl rfl (by omega) (by omega)) ?_
 refine eV (eMakeI rfl rfl rfl rfl rfl (by omega) (by omega) (by omega) (fun A3 => ?_))
 refine pV ?_
 generalize hN : (((il (pol a : Po (El p m mod))).length : Int) + (il (pol b : Po (El p m mod))).length).toNat = N
 refine tS ?_
 refine tS ?_
 refine tR fun _ _ _ => ?_
 refine pV ?_
 refine tB ?_
 refine tr_loop2 (fun (i : Int) (o : List Int) => [(1, .slice B1 (il (pol a : Po (El p m mod))).length c1), (2, .slice B2 (il (pol b : Po (El p m mod))).length c2), (3, .pointer (some p0)), (7, .slice A3 N N), (8, .int .i64 i)]) (fun (i : Int) (o : List Int) => [ow A3 3 N (ints o), ow B2 3 c2 (ints (il (pol b : Po (El p m mod)))), ow B1 3 c1 (ints (il (pol a : Po (El p m mod)))), blk p0 24 [.int .i64 p, .int .i64 m, .slice A mod.length c], ro A (ints mod)]) (fun (i : Int) (o : List Int) => (0 ≤ i ∧ i ≤ (il (pol a : Po (El p m mod))).length) ∧ o.length = N ∧ (pol o : Po (El p m mod)) = pol ((il (pol a : Po (El p m mod))).take i.toNat) * (pol b : Po (El p m mod))) (fun (i : Int) (o : List Int) => (((il (pol a : Po (El p m mod))).length : Int) - i).toNat) (0) (List.replicate N 0) ⟨rfl, rfl, rfl, rfl, rfl, trivial⟩ (by first | exact cs _ _ | exact CSub.refl _) (⟨⟨by omega, by omega⟩, by simp, by rw [pol_rep, Int.toNat_zero, pol_take_zero]; grind⟩) (fun i o hI => ?_)
 obtain ⟨⟨hi0, hi1⟩, hol, ho⟩ := hI
 refine tS ?_
 refine tS ?_
 refine tR fun _ _ _ => ?_
 iterate 2 refine pV ?_
 refine sV (rLen rfl rfl) ?_
 refine pV ?_
 refine tC rfl (fun h5 => ?_) (fun h5 => ?_)
 ·try simp only [zbA] at h5
  refine tK ?_
  refine tS ?_
  refine tB ?_
  refine tS ?_
  refine tR fun _ _ _ => ?_
  refine pV ?_
  refine tB ?_
  refine tr_loop2 (fun (j : Int) (o2 : List Int) => [(1, .slice B1 (il (pol a : Po (El p m mod))).length c1), (2, .slice B2 (il (pol b : Po (El p m mod))).length c2), (3, .pointer (some p0)), (7, .slice A3 N N), (8, .int .i64 i), (9, .int .i64 j)]) (fun (j : Int) (o2 : List Int) => [ow A3 3 N (ints o2), ow B2 3 c2 (ints (il (pol b : Po (El p m mod)))), ow B1 3 c1 (ints (il (pol a : Po (El p m mod)))), blk p0 24 [.int .i64 p, .int .i64 m, .slice A mod.length c], ro A (ints mod)]) (fun (j : Int) (o2 : List Int) => (0 ≤ j ∧ j ≤ (il (pol b : Po (El p m mod))).length) ∧ o2.length = N ∧ (pol o2 : Po (El p m mod)) = pol ((il (pol a : Po (El p m mod))).take i.toNat) * (pol b : Po (El p m mod)) + Po.mn (el ((il (pol a : Po (El p m mod))).getD i.toNat 0)) i.toNat * pol ((il (pol b : Po (El p m mod))).take j.toNat)) (fun (j : Int) (o2 : List Int) => (((il (pol b : Po (El p m mod))).length : Int) - j).toNat) (0) (o) ⟨rfl, rfl, rfl, rfl, rfl, rfl, trivial⟩ (by first | exact cs _ _ | exact CSub.refl _) (⟨⟨by omega, by omega⟩, hol, by rw [ho, Int.toNat_zero, pol_take_zero]; grind⟩) (fun j o2 hI => ?_)
  obtain ⟨⟨hj0, hj1⟩, ho2l, ho2⟩ := hI
  refine tS ?_
  refine tS ?_
  refine tR fun _ _ _ => ?_
  iterate 2 refine pV ?_
  refine sV (rLen rfl rfl) ?_
  refine pV ?_
  refine tC rfl (fun h8 => ?_) (fun h8 => ?_)
  ·try simp only [zbA] at h8
   refine tK ?_
   refine tS ?_
   refine tB ?_
   refine tr_draw [0, 1, 2, 3, 4, 5, 6, 7, 8, 9, 10, 11, 12, 13, 14, 15, 16, 17, 18, 19, 20, 21, 22] [23] mixed (by kernel_rfl) fun _ _ _ => ?_
   iterate 3 refine pV ?_
   refine sV (rAdd rfl rfl rfl (by omega) (by omega)) ?_
   refine sV (rLdS rfl rfl rfl) ?_
   iterate 3 refine pV ?_
   refine sV (rAdd rfl rfl rfl (by omega) (by omega)) ?_
   refine sV (rIdxI rfl rfl rfl (by omega) (by omega) (by omega)) ?_
   refine sV (rLdI rfl rfl (by omega)) ?_
   refine sV (rLdS rfl rfl rfl) ?_
   iterate 2 refine pV ?_
   refine sV (rIdxI rfl rfl rfl (by omega) (by omega) (by omega)) ?_
   refine sV (rLdI rfl rfl (by omega)) ?_
   iterate 2 refine pV ?_
   refine sV (rIdxI rfl rfl rfl (by omega) (by omega) (by omega)) ?_
   refine sV (rLdI rfl rfl (by omega)) ?_
   refine eV (eCallV rfl rfl rfl (ref_MulE _ _ _ _ _ _ _) ⟨rfl, rfl, rfl, trivial⟩ ?_)
   refine eV (eCallV rfl rfl rfl (ref_AddE _ _ _ _ _ _ _) ⟨rfl, rfl, rfl, trivial⟩ ?_)
   refine sV (rIdxI rfl rfl rfl (by omega) (by omega) (by omega)) ?_
   refine eV (eStI rfl rfl rfl rfl (by omega) ?_)
   refine tR fun _ _ _ => ?_
   refine pV ?_
   refine sV (rAdd rfl rfl rfl (by omega) (by omega)) ?_
   refine pV ?_
   refine ⟨j + 1, o2.set (i + j).toNat (el (o2.getD (i + j).toNat 0) + el ((el ((il (pol a : Po (El p m mod))).getD i.toNat 0) * el ((il (pol b : Po (El p m mod))).getD j.toNat 0) : El p m mod)).1 : El p m mod).1, ⟨rfl, rfl, rfl, rfl, rfl, rfl, trivial⟩, by first | exact cs _ _ | exact CSub.refl _, ?_⟩
   refine ⟨⟨⟨by omega, by omega⟩, by simpa using ho2l, ?_⟩, by omega⟩
   rw [pol_set_add (d := (el ((il (pol a : Po (El p m mod))).getD i.toNat 0) * el ((il (pol b : Po (El p m mod))).getD j.toNat 0) : El p m mod)) o2 (by omega) (by rw [el_of, el_of]), ho2, show (j + 1).toNat = j.toNat + 1 by omega, pol_take_succ, show (i + j).toNat = i.toNat + j.toNat by omega]
   have e1 := Po.mn_mul (el ((il (pol a : Po (El p m mod))).getD i.toNat 0) : El p m mod) (el ((il (pol b : Po (El p m mod))).getD j.toNat 0)) i.toNat j.toNat
   grind
  ·try simp only [zbA] at h8
   refine tE ?_
   refine tR fun _ _ _ => ?_
   refine pV ?_
   refine sV (rAdd rfl rfl rfl (by omega) (by omega)) ?_
   refine pV ?_
   refine ⟨i + 1, o2, ⟨rfl, rfl, rfl, rfl, rfl, trivial⟩, by first | exact cs _ _ | exact CSub.refl _, ?_⟩
   have hjn : j = (il (pol b : Po (El p m mod))).length := by omega
   rw [hjn, Int.toNat_natCast, List.take_length, pol_il] at ho2
   refine ⟨⟨⟨by omega, by omega⟩, ho2l, ?_⟩, by omega⟩
   rw [ho2, show (i + 1).toNat = i.toNat + 1 by omega, pol_take_succ]
   grind
 ·try simp only [zbA] at h5
  refine tE ?_
  refine tS ?_
  refine tR fun _ _ _ => ?_
  refine sV (rLdS rfl rfl rfl) ?_
  refine pV ?_
  refine eV (eCall1 rfl rfl rfl (ref_CanonE _ _ _ _ _ _ _ _ o (by omega) (by omega)) ⟨rfl, rfl, trivial⟩ ?_)
  rintro _ _ ⟨B11, c11, rfl, rfl⟩
  refine pV ?_
  have hin : i = (il (pol a : Po (El p m mod))).length := by omega
  rw [hin, Int.toNat_natCast, List.take_length, pol_il] at ho
  rw [ho]
  exact tr_ret ⟨trivial, _, _, rfl, ⟨_, rfl, _, _, rfl, rfl⟩, cs _ _, trivial, trivial⟩
theorem ref_PowL_ent : Enters Try.prog 65 := enters_of Try.func65 (by kernel_rfl) (by kernel_rfl)
theorem ref_PowL (p m : Int) (A : Option Addr) (c : Nat) (mod : List Int) [hF : IsF p m mod] (x k : Int) (hk : 0 ≤ k) (hk9 : k ≤ 9223372036854775807) :
  Pure Try.prog 65 #[.agg #[.int .i64 p, .int .i64 m, .slice A mod.length c], .int .i64 x, .int .i64 k] [ro A (ints mod)] (isV (.tuple #[.int .i64 (Rg.pow (el x : El p m mod) k.toNat).1, .int .i64 0])) := by
 have hor := hF.ord
 have hq2 := hF.q2
 have hq9 := hF.out.1.1.q
 have hix : (el x : El p m mod).1 = inI (ordI p m) x := by rw [hor]; rfl
 refine pure_of (args := [.agg #[.int .i64 p, .int .i64 m, .slice A mod.length c], .int .i64 x, .int .i64 k]) 44 Try.func65 rfl rfl rfl ref_PowL_ent ⟨id, trivial⟩ (fun w0 => ?_)
 refine tS ?_
 refine tR fun _ _ _ => ?_
 refine eV (eBox rfl rfl rfl rfl rfl (fun p0 => ?_))
 iterate 2 refine pV ?_
 refine tS ?_
 refine tR fun _ _ _ => ?_
 refine sV (rLdS rfl rfl rfl) ?_
 refine pV ?_
 refine eV (eCallV rfl rfl rfl (ref_In _ _ _ _ _ _) ⟨rfl, rfl, trivial⟩ ?_)
 refine pV ?_
 refine tS ?_
 refine tS ?_
 refine tR fun _ _ _ => ?_
 iterate 2 refine pV ?_
 refine tC rfl (fun h2 => ?_) (fun h2 => ?_)
 ·try simp only [zbA] at h2
  refine tS ?_
  refine tR fun _ _ _ => ?_
  iterate 2 refine pV ?_
  exact tr_ret ⟨trivial, _, _, rfl, ⟨by rw [show k.toNat = 0 by omega]; rfl, rfl⟩, CSub.nil _, trivial⟩
 ·try simp only [zbA] at h2
  refine tK ?_
  refine tS ?_
  refine tS ?_
  refine tR fun _ _ _ => ?_
  iterate 3 refine pV ?_
  refine stg rfl rfl rfl rfl rfl (fun hb => by (have hq := hb; try simp only [zbA] at hq); exact rMove rfl rfl) ?_
  refine stg rfl rfl rfl rfl rfl (fun hb => by (have hq := hb; try simp only [zbA] at hq); exact rLss rfl (evg rfl hb) rfl) ?_
  refine sV (rAndB rfl rfl rfl rfl) ?_
  refine tC rfl (fun h4 => ?_) (fun h4 => ?_)
  ·try simp only [zbA] at h4
   refine tS ?_
   refine tR fun _ _ _ => ?_
   iterate 2 refine pV ?_
   omega
  ·try simp only [zbA] at h4
   refine tK ?_
   refine tS ?_
   refine tS ?_
   refine tR fun _ _ _ => ?_
   iterate 2 refine pV ?_
   refine tC rfl (fun h6 => ?_) (fun h6 => ?_)
   ·try simp only [zbA] at h6
    refine tS ?_
    refine tR fun _ _ _ => ?_
    iterate 2 refine pV ?_
    exact tr_ret ⟨trivial, _, _, rfl, ⟨by
     have hx0 : (el x : El p m mod) = 0 := (val_zero_iff (el x : El p m mod)).1 (by omega)
     rw [hx0, Rg.zero_pow (by omega)]; rfl, rfl⟩, CSub.nil _, trivial⟩
   ·try simp only [zbA] at h6
    refine tK ?_
    refine tS ?_
    have hx0 : (el x : El p m mod) ≠ 0 := fun e => by
     have := (val_zero_iff (el x : El p m mod)).2 e
     omega
    have e0 := Int.emod_nonneg k (show ordI p m - 1 ≠ 0 by omega)
    have e1 := Int.emod_lt_of_pos k (show 0 < ordI p m - 1 by omega)
    refine tR fun _ _ _ => ?_
    refine sV (rLdS rfl rfl rfl) ?_
    refine eV (eCallV rfl rfl rfl (ref_order _ _ _ _ _) ⟨rfl, trivial⟩ ?_)
    refine sV (rSub rfl rfl rfl (by omega) (by omega)) ?_
    refine pV ?_
    refine tS ?_
    refine tR fun _ _ _ => ?_
    iterate 2 refine pV ?_
    refine sV (rRem rfl rfl rfl (by omega) (by omega)) ?_
    refine pV ?_
    refine sV (rAdd rfl rfl rfl (by omega) (by omega)) ?_
    refine pV ?_
    refine sV (rRem rfl rfl rfl (by omega) (by omega)) ?_
    refine pV ?_
    refine tS ?_
    have e2 : (k % (ordI p m - 1) + (ordI p m - 1)) % (ordI p m - 1) = k % (ordI p m - 1) := by rw [Int.add_emod_right, Int.emod_emod_of_dvd _ (Int.dvd_refl _)]
    rw [e2]
    refine tR fun _ _ _ => ?_
    refine pV ?_
    refine tS ?_
    refine tS ?_
    refine tR fun _ _ _ => ?_
    refine pV ?_
    refine tB ?_
    refine tr_loop2 (fun (i : Int) (y : Int) => [(9, .int .i64 y), (10, .int .i64 i), (1, .int .i64 (inI (ordI p m) x)), (2, .int .i64 (k % (ordI p m - 1))), (3, .pointer (some p0)), (6, .int .i64 0), (7, .int .i64 0)]) (fun (i : Int) (y : Int) => [blk p0 24 [.int .i64 p, .int .i64 m, .slice A mod.length c], ro A (ints mod)]) (fun (i : Int) (y : Int) => (0 ≤ i ∧ i ≤ k % (ordI p m - 1)) ∧ y = (Rg.pow (el x) i.toNat : El p m mod).1) (fun (i : Int) (y : Int) => (k % (ordI p m - 1) - i).toNat) (0) (1) ⟨rfl, rfl, rfl, rfl, rfl, rfl, rfl, trivial⟩ (by first | exact cs _ _ | exact CSub.refl _) (⟨⟨by omega, by omega⟩, rfl⟩) (fun i y hI => ?_)
    obtain ⟨⟨hi0, hi1⟩, hy⟩ := hI
    refine tS ?_
    refine tS ?_
    refine tR fun _ _ _ => ?_
    iterate 3 refine pV ?_
    refine tC rfl (fun h12 => ?_) (fun h12 => ?_)
    ·try simp only [zbA] at h12
     refine tK ?_
     refine tS ?_
     refine tB ?_
     refine tR fun _ _ _ => ?_
     refine sV (rLdS rfl rfl rfl) ?_
     iterate 2 refine pV ?_
     refine eV (eCallV rfl rfl rfl (ref_MulE _ _ _ _ _ _ _) ⟨rfl, rfl, rfl, trivial⟩ ?_)
     refine pV ?_
     refine tR fun _ _ _ => ?_
     refine pV ?_
     refine sV (rAdd rfl rfl rfl (by omega) (by omega)) ?_
     refine pV ?_
     refine ⟨i + 1, (el y * el (inI (ordI p m) x) : El p m mod).1, ⟨rfl, rfl, rfl, rfl, rfl, rfl, rfl, trivial⟩, by first | exact cs _ _ | exact CSub.refl _, ?_⟩
     refine ⟨⟨⟨by omega, by omega⟩, ?_⟩, by omega⟩
     rw [show (i + 1).toNat = i.toNat + 1 by omega, Rg.pow_succ, hy, el_of, ← hix, el_of]
    ·try simp only [zbA] at h12
     refine tE ?_
     refine tS ?_
     refine tR fun _ _ _ => ?_
     iterate 3 refine pV ?_
     have hi : i.toNat = k.toNat % (pw p m - 1).toNat := by
      have h1 : i = k % (ordI p m - 1) := by omega
      rw [h1, hor]
      obtain ⟨b, hb⟩ := Int.eq_ofNat_of_zero_le hk
      obtain ⟨c, hc⟩ := Int.eq_ofNat_of_zero_le (show 0 ≤ pw p m - 1 by omega)
      rw [hb, hc, ← Int.natCast_emod]
      simp only [Int.toNat_natCast]
     rw [hi, pow_rem hx0] at hy
     exact tr_ret ⟨trivial, _, _, rfl, ⟨by rw [hy], rfl⟩, CSub.nil _, trivial⟩
theorem ref_ProductN_ent : Enters Try.prog 22 := enters_of Try.func22 (by kernel_rfl) (by kernel_rfl)
theorem ref_ProductN (p m : Int) (A : Option Addr) (c : Nat) (mod : List Int) [hF : IsF p m mod] (ld : Int) (X : Option Addr) (nx cx : Nat) (fs : List FacM) (hnx : nx = fs.length) (hf9 : fs.length ≤ 17592186044415) (hfx : ∀ f ∈ fs, f.r.xs.length ≤ 17592186044415 ∧ f.k ≤ 9223372036854775807 ∧ -9223372036854775808 ≤ f.k) (hneg : ∃ f ∈ fs, f.k < 0) :
  Pure Try.prog 22 #[.agg #[.int .i64 p, .int .i64 m, .slice A mod.length c], .int .i64 ld, .slice X nx cx] [ro A (ints mod), ro X (prs (fcs fs)), rowsR (rws fs)] (isV (.tuple #[.slice none 0 0, .int .i64 6])) := by
 refine pure_of (args := [.agg #[.int .i64 p, .int .i64 m, .slice A mod.length c], .int .i64 ld, .slice X nx cx]) 120 Try.func22 rfl rfl rfl ref_ProductN_ent ⟨id, id, id, trivial⟩ (fun w0 => ?_)
 refine tS ?_
 refine tR fun _ _ _ => ?_
 refine eV (eBox rfl rfl rfl rfl rfl (fun p0 => ?_))
 iterate 2 refine pV ?_
 refine tS ?_
 refine tS ?_
 refine tR fun _ _ _ => ?_
 refine pV ?_
 refine tB ?_
 refine tr_loop1 (fun (k : Int) => [(8, .int .i64 k), (1, .int .i64 ld), (2, .slice X nx cx), (3, .pointer (some p0))]) (fun (k : Int) => [blk p0 24 [.int .i64 p, .int .i64 m, .slice A mod.length c], ro A (ints mod), ro X (prs (fcs fs)), rowsR (rws fs)]) (fun (k : Int) => (0 ≤ k ∧ k ≤ nx) ∧ ∀ j : Nat, (j : Int) < k → 0 ≤ (fs.getD j facD).k) (fun (k : Int) => (nx - k).toNat) (0) ⟨rfl, rfl, rfl, rfl, trivial⟩ (by first | exact cs _ _ | exact CSub.refl _) (⟨⟨by omega, by omega⟩, fun j hj => by omega⟩) (fun k hI => ?_)
 obtain ⟨⟨hk0, hk1⟩, hall⟩ := hI
 refine tS ?_
 refine tS ?_
 refine tR fun _ _ _ => ?_
 iterate 2 refine pV ?_
 refine sV (rLenS rfl rfl) ?_
 refine pV ?_
 refine tC rfl (fun h2 => ?_) (fun h2 => ?_)
 ·try simp only [zbA] at h2
  refine tK ?_
  refine tS ?_
  refine tB ?_
  refine tS ?_
  have hjl : k.toNat < fs.length := by omega
  have hfe := hfx _ (getD_mem hjl facD)
  refine tR fun _ _ _ => ?_
  iterate 2 refine pV ?_
  refine sV (rIdxT rfl rfl rfl (by omega) (by omega) (by simp; omega)) ?_
  refine sV (rFld rfl rfl) ?_
  refine sV (rLdG1 rfl rfl (by omega)) ?_
  refine pV ?_
  refine tC rfl (fun h4 => ?_) (fun h4 => ?_)
  ·try simp only [zbA] at h4
   refine tS ?_
   refine tR fun _ _ _ => ?_
   iterate 2 refine pV ?_
   exact tr_ret ⟨trivial, _, _, rfl, ⟨rfl, rfl⟩, CSub.nil _, trivial⟩
  ·try simp only [zbA] at h4
   refine tK ?_
   refine tR fun _ _ _ => ?_
   refine pV ?_
   refine sV (rAdd rfl rfl rfl (by omega) (by omega)) ?_
   refine pV ?_
   refine ⟨k + 1, ⟨rfl, rfl, rfl, rfl, trivial⟩, by first | exact cs _ _ | exact CSub.refl _, ?_⟩
   refine ⟨⟨⟨by omega, by omega⟩, fun j hj => ?_⟩, by omega⟩
   by_cases h : (j : Int) < k
   ·exact hall j h
   ·rw [show j = k.toNat by omega]; omega
 ·try simp only [zbA] at h2
  obtain ⟨f, hf, hf0⟩ := hneg
  obtain ⟨j, hj, rfl⟩ := List.getElem_of_mem hf
  have := hall j (by omega)
  rw [List.getD_eq_getElem?_getD, List.getElem?_eq_getElem hj] at this
  simp only [Option.getD_some] at this
  omega --done
theorem ref_ProductB_ent : Enters Try.prog 22 := enters_of Try.func22 (by kernel_rfl) (by kernel_rfl)
theorem ref_ProductB (p m : Int) (A : Option Addr) (c : Nat) (mod : List Int) [hF : IsF p m mod] (ld : Int) (X : Option Addr) (nx cx : Nat) (fs : List FacM) (hnx : nx = fs.length) (hf9 : fs.length ≤ 17592186044415) (hfx : ∀ f ∈ fs, f.r.xs.length ≤ 17592186044415 ∧ f.k ≤ 9223372036854775807 ∧ -9223372036854775808 ≤ f.k) (hnn : ∀ f ∈ fs, 0 ≤ f.k) (hbig : 256 < fcT p m mod fs fs.length) :
  Pure Try.prog 22 #[.agg #[.int .i64 p, .int .i64 m, .slice A mod.length c], .int .i64 ld, .slice X nx cx] [ro A (ints mod), ro X (prs (fcs fs)), rowsR (rws fs)] (isV (.tuple #[.slice none 0 0, .int .i64 8])) := by
 refine pure_of (args := [.agg #[.int .i64 p, .int .i64 m, .slice A mod.length c], .int .i64 ld, .slice X nx cx]) 120 Try.func22 rfl rfl rfl ref_ProductB_ent ⟨id, id, id, trivial⟩ (fun w0 => ?_)
 refine tS ?_
 refine tR fun _ _ _ => ?_
 refine eV (eBox rfl rfl rfl rfl rfl (fun p0 => ?_))
 iterate 2 refine pV ?_
 refine tS ?_
 refine tS ?_
 refine tR fun _ _ _ => ?_
 refine pV ?_
 refine tB ?_
 refine tr_loop1 (fun (k : Int) => [(8, .int .i64 k), (1, .int .i64 ld), (2, .slice X nx cx), (3, .pointer (some p0))]) (fun (k : Int) => [blk p0 24 [.int .i64 p, .int .i64 m, .slice A mod.length c], ro A (ints mod), ro X (prs (fcs fs)), rowsR (rws fs)]) (fun (k : Int) => (0 ≤ k ∧ k ≤ nx) ∧ ∀ j : Nat, (j : Int) < k → 0 ≤ (fs.getD j facD).k) (fun (k : Int) => (nx - k).toNat) (0) ⟨rfl, rfl, rfl, rfl, trivial⟩ (by first | exact cs _ _ | exact CSub.refl _) (⟨⟨by omega, by omega⟩, fun j hj => by omega⟩) (fun k hI => ?_)
 obtain ⟨⟨hk0, hk1⟩, hall⟩ := hI
 refine tS ?_
 refine tS ?_
 refine tR fun _ _ _ => ?_
 iterate 2 refine pV ?_
 refine sV (rLenS rfl rfl) ?_
 refine pV ?_
 refine tC rfl (fun h2 => ?_) (fun h2 => ?_)
 ·try simp only [zbA] at h2
  refine tK ?_
  refine tS ?_
  refine tB ?_
  refine tS ?_
  have hjl : k.toNat < fs.length := by omega
  have hfe := hfx _ (getD_mem hjl facD)
  refine tR fun _ _ _ => ?_
  iterate 2 refine pV ?_
  refine sV (rIdxT rfl rfl rfl (by omega) (by omega) (by simp; omega)) ?_
  refine sV (rFld rfl rfl) ?_
  refine sV (rLdG1 rfl rfl (by omega)) ?_
  refine pV ?_
  refine tC rfl (fun h4 => ?_) (fun h4 => ?_)
  ·try simp only [zbA] at h4
   have := hnn _ (getD_mem hjl facD)
   omega --done
  ·try simp only [zbA] at h4
   refine tK ?_
   refine tR fun _ _ _ => ?_
   refine pV ?_
   refine sV (rAdd rfl rfl rfl (by omega) (by omega)) ?_
   refine pV ?_
   refine ⟨k + 1, ⟨rfl, rfl, rfl, rfl, trivial⟩, by first | exact cs _ _ | exact CSub.refl _, ?_⟩
   refine ⟨⟨⟨by omega, by omega⟩, fun j hj => ?_⟩, by omega⟩
   by_cases h : (j : Int) < k
   ·exact hall j h
   ·rw [show j = k.toNat by omega]; omega
 ·try simp only [zbA] at h2
  refine tE ?_
  refine tS ?_
  refine tR fun _ _ _ => ?_
  refine pV ?_
  refine tS ?_
  refine tS ?_
  refine tR fun _ _ _ => ?_
  refine pV ?_
  refine tB ?_
  refine tr_loop2 (fun (k : Int) (s : Int) => [(10, .int .i64 k), (9, .int .i64 s), (1, .int .i64 ld), (2, .slice X nx cx), (3, .pointer (some p0))]) (fun (k : Int) (s : Int) => [blk p0 24 [.int .i64 p, .int .i64 m, .slice A mod.length c], ro A (ints mod), ro X (prs (fcs fs)), rowsR (rws fs)]) (fun (k : Int) (s : Int) => (0 ≤ k ∧ k ≤ nx) ∧ s = fcT p m mod fs k.toNat ∧ s ≤ 256) (fun (k : Int) (s : Int) => (nx - k).toNat) (0) (0) ⟨rfl, rfl, rfl, rfl, rfl, trivial⟩ (by first | exact cs _ _ | exact CSub.refl _) (⟨⟨by omega, by omega⟩, rfl, by omega⟩) (fun k s hI => ?_)
  obtain ⟨⟨hk0, hk1⟩, hs, hs9⟩ := hI
  refine tS ?_
  refine tS ?_
  refine tR fun _ _ _ => ?_
  iterate 2 refine pV ?_
  refine sV (rLenS rfl rfl) ?_
  refine pV ?_
  refine tC rfl (fun h8 => ?_) (fun h8 => ?_)
  ·try simp only [zbA] at h8
   refine tK ?_
   refine tS ?_
   refine tB ?_
   refine tS ?_
   have hjl : k.toNat < fs.length := by omega
   have hfe := hfx _ (getD_mem hjl facD)
   haveI : InB k.toNat fs.length := ⟨hjl⟩
   have hfk := hnn _ (getD_mem hjl facD)
   have hfd : (fcD p m mod (fs.getD k.toNat facD)) = max ((Po.len (pol (fs.getD k.toNat facD).r.xs : Po (El p m mod)) : Int) - 1) 0 := rfl
   refine tr_draw [0, 1, 2, 3, 4, 5, 6, 7] [] mixed (by kernel_rfl) fun _ _ _ => ?_
   refine sV (rLdS rfl rfl rfl) ?_
   iterate 2 refine pV ?_
   refine sV (rIdxT rfl rfl rfl (by omega) (by omega) (by simp; omega)) ?_
   refine sV (rFld rfl rfl) ?_
   refine sV (rLdG0 rfl rfl (by omega)) ?_
   refine eV (eCallV rfl rfl rfl (ref_PDegree p m A c mod (fs.getD k.toNat facD).r.A _ (fs.getD k.toNat facD).r.cap (fs.getD k.toNat facD).r.xs rfl hfe.1) ⟨rfl, rfl, trivial⟩ ?_)
   refine pV ?_
   refine tS ?_
   refine tS ?_
   have hdn := fcD_nn (p := p) (m := m) (mod := mod) (fs.getD k.toNat facD)
   have hss : 0 ≤ s := by rw [hs]; exact sumF_nn (fcT_nn hnn) _
   have hsuc := fcT_succ (p := p) (m := m) (mod := mod) hjl
   have hq0 : 0 < (fcD p m mod (fs.getD k.toNat facD)) → 0 ≤ (256 - s) / (fcD p m mod (fs.getD k.toNat facD)) := fun h => Int.ediv_nonneg (by omega) (by omega)
   have hz0 : (fcD p m mod (fs.getD k.toNat facD)) = 0 → (fcD p m mod (fs.getD k.toNat facD)) * (fs.getD k.toNat facD).k = 0 := fun h => by rw [h, Int.zero_mul]
   refine tR fun _ _ _ => ?_
   iterate 2 refine pV ?_
   refine tC rfl (fun h11 => ?_) (fun h11 => ?_)
   ·try simp only [zbA] at h11
    refine tE ?_
    refine tR fun _ _ _ => ?_
    refine pV ?_
    refine sV (rAdd rfl rfl rfl (by omega) (by omega)) ?_
    refine pV ?_
    refine ⟨k + 1, s, ⟨rfl, rfl, rfl, rfl, rfl, trivial⟩, by first | exact cs _ _ | exact CSub.refl _, ?_⟩
    exact ⟨⟨⟨by omega, by omega⟩, by rw [show (k + 1).toNat = k.toNat + 1 by omega, hsuc, hs, hz0 (by omega)]; omega, by omega⟩, by omega⟩
   ·try simp only [zbA] at h11
    refine tK ?_
    refine tS ?_
    refine tS ?_
    have hde : (Po.len (pol (fs.getD k.toNat facD).r.xs : Po (El p m mod)) : Int) - 1 = (fcD p m mod (fs.getD k.toNat facD)) := by omega
    refine tr_draw [0, 1, 2, 3, 4, 5, 6, 7, 8, 9] [] mixed (by kernel_rfl) fun _ _ _ => ?_
    iterate 2 refine pV ?_
    refine sV (rIdxT rfl rfl rfl (by omega) (by omega) (by simp; omega)) ?_
    refine sV (rFld rfl rfl) ?_
    refine sV (rLdG1 rfl rfl (by omega)) ?_
    refine pV ?_
    refine sV (rSub rfl rfl rfl (by omega) (by omega)) ?_
    rw [hde]
    refine pV ?_
    refine sV (rQuo rfl rfl rfl (by omega) (by omega)) ?_
    refine pV ?_
    refine tC rfl (fun h12 => ?_) (fun h12 => ?_)
    ·try simp only [zbA] at h12
     refine tS ?_
     refine tR fun _ _ _ => ?_
     iterate 2 refine pV ?_
     exact tr_ret ⟨trivial, _, _, rfl, ⟨rfl, rfl⟩, CSub.nil _, trivial⟩
    ·try simp only [zbA] at h12
     refine tK ?_
     have hmb : 0 ≤ (fcD p m mod (fs.getD k.toNat facD)) * (fs.getD k.toNat facD).k ∧ (fcD p m mod (fs.getD k.toNat facD)) * (fs.getD k.toNat facD).k ≤ 256 - s := by
      refine ⟨Int.mul_nonneg hdn hfk, ?_⟩
      rcases Int.lt_or_eq_of_le hdn with h | h
      ·have h2 : (fs.getD k.toNat facD).k ≤ (256 - s) / (fcD p m mod (fs.getD k.toNat facD)) := by omega
       have h3 := Int.mul_le_of_le_ediv h h2
       rw [Int.mul_comm]; exact h3
      ·rw [← h, Int.zero_mul]; omega
     refine tR fun _ _ _ => ?_
     iterate 4 refine pV ?_
     refine sV (rIdxT rfl rfl rfl (by omega) (by omega) (by simp; omega)) ?_
     refine sV (rFld rfl rfl) ?_
     refine sV (rLdG1 rfl rfl (by omega)) ?_
     refine sV (rMul rfl rfl rfl (by omega) (by omega)) ?_
     refine sV (rAdd rfl rfl rfl (by omega) (by omega)) ?_
     refine pV ?_
     refine tR fun _ _ _ => ?_
     refine pV ?_
     refine sV (rAdd rfl rfl rfl (by omega) (by omega)) ?_
     refine pV ?_
     refine ⟨k + 1, s + (fcD p m mod (fs.getD k.toNat facD)) * (fs.getD k.toNat facD).k, ⟨rfl, rfl, rfl, rfl, rfl, trivial⟩, by first | exact cs _ _ | exact CSub.refl _, ?_⟩
     exact ⟨⟨⟨by omega, by omega⟩, by rw [show (k + 1).toNat = k.toNat + 1 by omega, hsuc, hs], by omega⟩, by omega⟩
  ·try simp only [zbA] at h8
   rw [show k.toNat = fs.length by omega] at hs
   omega --done
theorem ref_Product_ent : Enters Try.prog 22 := enters_of Try.func22 (by kernel_rfl) (by kernel_rfl)
theorem ref_Product (p m : Int) (A : Option Addr) (c : Nat) (mod : List Int) [hF : IsF p m mod] (ld : Int) (X : Option Addr) (nx cx : Nat) (fs : List FacM) (hnx : nx = fs.length) (hf9 : fs.length ≤ 17592186044415) (hfx : ∀ f ∈ fs, f.r.xs.length ≤ 17592186044415 ∧ f.k ≤ 9223372036854775807 ∧ -9223372036854775808 ≤ f.k) (hnn : ∀ f ∈ fs, 0 ≤ f.k) (hsm : fcT p m mod fs fs.length ≤ 256) :
  Pure Try.prog 22 #[.agg #[.int .i64 p, .int .i64 m, .slice A mod.length c], .int .i64 ld, .slice X nx cx] [ro A (ints mod), ro X (prs (fcs fs)), rowsR (rws fs)] (one (fun v ch => ∃ B cap, v = .tuple #[.slice B (il (prF p m mod ld fs fs.length)).length cap, .int .i64 0] ∧ ch = ow B 3 cap (ints (il (prF p m mod ld fs fs.length))))) := by
 have hq2 := hF.q2
 refine pure_of (args := [.agg #[.int .i64 p, .int .i64 m, .slice A mod.length c], .int .i64 ld, .slice X nx cx]) 120 Try.func22 rfl rfl rfl ref_Product_ent ⟨id, id, id, trivial⟩ (fun w0 => ?_)
 refine tS ?_
 refine tR fun _ _ _ => ?_
 refine eV (eBox rfl rfl rfl rfl rfl (fun p0 => ?_))
 iterate 2 refine pV ?_
 refine tS ?_
 refine tS ?_
 refine tR fun _ _ _ => ?_
 refine pV ?_
 refine tB ?_
 refine tr_loop1 (fun (k : Int) => [(8, .int .i64 k), (1, .int .i64 ld), (2, .slice X nx cx), (3, .pointer (some p0))]) (fun (k : Int) => [blk p0 24 [.int .i64 p, .int .i64 m, .slice A mod.length c], ro A (ints mod), ro X (prs (fcs fs)), rowsR (rws fs)]) (fun (k : Int) => (0 ≤ k ∧ k ≤ nx) ∧ ∀ j : Nat, (j : Int) < k → 0 ≤ (fs.getD j facD).k) (fun (k : Int) => (nx - k).toNat) (0) ⟨rfl, rfl, rfl, rfl, trivial⟩ (by first | exact cs _ _ | exact CSub.refl _) (⟨⟨by omega, by omega⟩, fun j hj => by omega⟩) (fun k hI => ?_)
 obtain ⟨⟨hk0, hk1⟩, hall⟩ := hI
 refine tS ?_
 refine tS ?_
 refine tR fun _ _ _ => ?_
 iterate 2 refine pV ?_
 refine sV (rLenS rfl rfl) ?_
 refine pV ?_
 refine tC rfl (fun h2 => ?_) (fun h2 => ?_)
 ·try simp only [zbA] at h2
  refine tK ?_
  refine tS ?_
  refine tB ?_
  refine tS ?_
  have hjl : k.toNat < fs.length := by omega
  have hfe := hfx _ (getD_mem hjl facD)
  refine tR fun _ _ _ => ?_
  iterate 2 refine pV ?_
  refine sV (rIdxT rfl rfl rfl (by omega) (by omega) (by simp; omega)) ?_
  refine sV (rFld rfl rfl) ?_
  refine sV (rLdG1 rfl rfl (by omega)) ?_
  refine pV ?_
  refine tC rfl (fun h4 => ?_) (fun h4 => ?_)
  ·try simp only [zbA] at h4
   have := hnn _ (getD_mem hjl facD)
   omega --done
  ·try simp only [zbA] at h4
   refine tK ?_
   refine tR fun _ _ _ => ?_
   refine pV ?_
   refine sV (rAdd rfl rfl rfl (by omega) (by omega)) ?_
   refine pV ?_
   refine ⟨k + 1, ⟨rfl, rfl, rfl, rfl, trivial⟩, by first | exact cs _ _ | exact CSub.refl _, ?_⟩
   refine ⟨⟨⟨by omega, by omega⟩, fun j hj => ?_⟩, by omega⟩
   by_cases h : (j : Int) < k
   ·exact hall j h
   ·rw [show j = k.toNat by omega]; omega
 ·try simp only [zbA] at h2
  refine tE ?_
  refine tS ?_
  refine tR fun _ _ _ => ?_
  refine pV ?_
  refine tS ?_
  refine tS ?_
  refine tR fun _ _ _ => ?_
  refine pV ?_
  refine tB ?_
  refine tr_loop2 (fun (k : Int) (s : Int) => [(10, .int .i64 k), (9, .int .i64 s), (1, .int .i64 ld), (2, .slice X nx cx), (3, .pointer (some p0))]) (fun (k : Int) (s : Int) => [blk p0 24 [.int .i64 p, .int .i64 m, .slice A mod.length c], ro A (ints mod), ro X (prs (fcs fs)), rowsR (rws fs)]) (fun (k : Int) (s : Int) => (0 ≤ k ∧ k ≤ nx) ∧ s = fcT p m mod fs k.toNat ∧ s ≤ 256) (fun (k : Int) (s : Int) => (nx - k).toNat) (0) (0) ⟨rfl, rfl, rfl, rfl, rfl, trivial⟩ (by first | exact cs _ _ | exact CSub.refl _) (⟨⟨by omega, by omega⟩, rfl, by omega⟩) (fun k s hI => ?_)
  obtain ⟨⟨hk0, hk1⟩, hs, hs9⟩ := hI
  refine tS ?_
  refine tS ?_
  refine tR fun _ _ _ => ?_
  iterate 2 refine pV ?_
  refine sV (rLenS rfl rfl) ?_
  refine pV ?_
  refine tC rfl (fun h8 => ?_) (fun h8 => ?_)
  ·try simp only [zbA] at h8
   refine tK ?_
   refine tS ?_
   refine tB ?_
   refine tS ?_
   have hjl : k.toNat < fs.length := by omega
   have hfe := hfx _ (getD_mem hjl facD)
   haveI : InB k.toNat fs.length := ⟨hjl⟩
   have hfk := hnn _ (getD_mem hjl facD)
   have hfd : (fcD p m mod (fs.getD k.toNat facD)) = max ((Po.len (pol (fs.getD k.toNat facD).r.xs : Po (El p m mod)) : Int) - 1) 0 := rfl
   refine tr_draw [0, 1, 2, 3, 4, 5, 6, 7] [] mixed (by kernel_rfl) fun _ _ _ => ?_
   refine sV (rLdS rfl rfl rfl) ?_
   iterate 2 refine pV ?_
   refine sV (rIdxT rfl rfl rfl (by omega) (by omega) (by simp; omega)) ?_
   refine sV (rFld rfl rfl) ?_
   refine sV (rLdG0 rfl rfl (by omega)) ?_
   refine eV (eCallV rfl rfl rfl (ref_PDegree p m A c mod (fs.getD k.toNat facD).r.A _ (fs.getD k.toNat facD).r.cap (fs.getD k.toNat facD).r.xs rfl hfe.1) ⟨rfl, rfl, trivial⟩ ?_)
   refine pV ?_
   refine tS ?_
   refine tS ?_
   have hdn := fcD_nn (p := p) (m := m) (mod := mod) (fs.getD k.toNat facD)
   have hss : 0 ≤ s := by rw [hs]; exact sumF_nn (fcT_nn hnn) _
   have hsuc := fcT_succ (p := p) (m := m) (mod := mod) hjl
   have hq0 : 0 < (fcD p m mod (fs.getD k.toNat facD)) → 0 ≤ (256 - s) / (fcD p m mod (fs.getD k.toNat facD)) := fun h => Int.ediv_nonneg (by omega) (by omega)
   have hz0 : (fcD p m mod (fs.getD k.toNat facD)) = 0 → (fcD p m mod (fs.getD k.toNat facD)) * (fs.getD k.toNat facD).k = 0 := fun h => by rw [h, Int.zero_mul]
   refine tR fun _ _ _ => ?_
   iterate 2 refine pV ?_
   refine tC rfl (fun h11 => ?_) (fun h11 => ?_)
   ·try simp only [zbA] at h11
    refine tE ?_
    refine tR fun _ _ _ => ?_
    refine pV ?_
    refine sV (rAdd rfl rfl rfl (by omega) (by omega)) ?_
    refine pV ?_
    refine ⟨k + 1, s, ⟨rfl, rfl, rfl, rfl, rfl, trivial⟩, by first | exact cs _ _ | exact CSub.refl _, ?_⟩
    exact ⟨⟨⟨by omega, by omega⟩, by rw [show (k + 1).toNat = k.toNat + 1 by omega, hsuc, hs, hz0 (by omega)]; omega, by omega⟩, by omega⟩
   ·try simp only [zbA] at h11
    refine tK ?_
    refine tS ?_
    refine tS ?_
    have hde : (Po.len (pol (fs.getD k.toNat facD).r.xs : Po (El p m mod)) : Int) - 1 = (fcD p m mod (fs.getD k.toNat facD)) := by omega
    refine tr_draw [0, 1, 2, 3, 4, 5, 6, 7, 8, 9] [] mixed (by kernel_rfl) fun _ _ _ => ?_
    iterate 2 refine pV ?_
    refine sV (rIdxT rfl rfl rfl (by omega) (by omega) (by simp; omega)) ?_
    refine sV (rFld rfl rfl) ?_
    refine sV (rLdG1 rfl rfl (by omega)) ?_
    refine pV ?_
    refine sV (rSub rfl rfl rfl (by omega) (by omega)) ?_
    rw [hde]
    refine pV ?_
    refine sV (rQuo rfl rfl rfl (by omega) (by omega)) ?_
    refine pV ?_
    refine tC rfl (fun h12 => ?_) (fun h12 => ?_)
    ·try simp only [zbA] at h12
     have h2 := h12
     have h3 := Int.lt_mul_of_ediv_lt (show 0 < (fcD p m mod (fs.getD k.toNat facD)) by omega) h2
     rw [Int.mul_comm] at h3
     have := fcT_mono (p := p) (m := m) (mod := mod) hnn (show k.toNat + 1 ≤ fs.length by omega)
     omega --done
    ·try simp only [zbA] at h12
     refine tK ?_
     have hmb : 0 ≤ (fcD p m mod (fs.getD k.toNat facD)) * (fs.getD k.toNat facD).k ∧ (fcD p m mod (fs.getD k.toNat facD)) * (fs.getD k.toNat facD).k ≤ 256 - s := by
      refine ⟨Int.mul_nonneg hdn hfk, ?_⟩
      rcases Int.lt_or_eq_of_le hdn with h | h
      ·have h2 : (fs.getD k.toNat facD).k ≤ (256 - s) / (fcD p m mod (fs.getD k.toNat facD)) := by omega
       have h3 := Int.mul_le_of_le_ediv h h2
       rw [Int.mul_comm]; exact h3
      ·rw [← h, Int.zero_mul]; omega
     refine tR fun _ _ _ => ?_
     iterate 4 refine pV ?_
     refine sV (rIdxT rfl rfl rfl (by omega) (by omega) (by simp; omega)) ?_
     refine sV (rFld rfl rfl) ?_
     refine sV (rLdG1 rfl rfl (by omega)) ?_
     refine sV (rMul rfl rfl rfl (by omega) (by omega)) ?_
     refine sV (rAdd rfl rfl rfl (by omega) (by omega)) ?_
     refine pV ?_
     refine tR fun _ _ _ => ?_
     refine pV ?_
     refine sV (rAdd rfl rfl rfl (by omega) (by omega)) ?_
     refine pV ?_
     refine ⟨k + 1, s + (fcD p m mod (fs.getD k.toNat facD)) * (fs.getD k.toNat facD).k, ⟨rfl, rfl, rfl, rfl, rfl, trivial⟩, by first | exact cs _ _ | exact CSub.refl _, ?_⟩
     exact ⟨⟨⟨by omega, by omega⟩, by rw [show (k + 1).toNat = k.toNat + 1 by omega, hsuc, hs], by omega⟩, by omega⟩
  ·try simp only [zbA] at h8
   refine tE ?_
   refine tS ?_
   refine tR fun _ _ _ => ?_
   refine sV (rLdS rfl rfl rfl) ?_
   refine pV ?_
   refine eV (eLit1I rfl rfl rfl rfl (fun A15 => ?_))
   refine eV (eCall1 rfl rfl rfl (ref_CanonE p m A c mod A15 1 1 [ld] rfl (by simp)) ⟨rfl, rfl, trivial⟩ ?_)
   rintro _ _ ⟨B15, c15, rfl, rfl⟩
   refine pV ?_
   refine tS ?_
   refine tS ?_
   have hp0 : (pol [ld] : Po (El p m mod)) = (prF p m mod ld fs 0) := pol_one_k ld
   rw [hp0]
   refine tR fun _ _ _ => ?_
   refine pV ?_
   refine tB ?_
   refine tr_loop4 (fun (k : Int) (B : Option Addr) (cb : Nat) (l : List Int) => [(13, .int .i64 k), (12, .slice B l.length cb), (2, .slice X nx cx), (3, .pointer (some p0))]) (fun (k : Int) (B : Option Addr) (cb : Nat) (l : List Int) => [ow B 3 cb (ints l), blk p0 24 [.int .i64 p, .int .i64 m, .slice A mod.length c], ro A (ints mod), ro X (prs (fcs fs)), rowsR (rws fs)]) (fun (k : Int) (B : Option Addr) (cb : Nat) (l : List Int) => (0 ≤ k ∧ k ≤ nx) ∧ l = il (prF p m mod ld fs k.toNat)) (fun (k : Int) (B : Option Addr) (cb : Nat) (l : List Int) => (nx - k).toNat) (0) (B15) (c15) (il (prF p m mod ld fs 0)) ⟨rfl, rfl, rfl, rfl, trivial⟩ (by first | exact cs _ _ | exact CSub.refl _) (⟨⟨by omega, by omega⟩, rfl⟩) (fun k B cb l hI => ?_)
   obtain ⟨⟨hk0, hk1⟩, rfl⟩ := hI
   refine tS ?_
   refine tS ?_
   refine tR fun _ _ _ => ?_
   iterate 2 refine pV ?_
   refine sV (rLenS rfl rfl) ?_
   refine pV ?_
   refine tC rfl (fun h17 => ?_) (fun h17 => ?_)
   ·try simp only [zbA] at h17
    refine tK ?_
    refine tS ?_
    refine tB ?_
    refine tS ?_
    refine tS ?_
    have hjl : k.toNat < fs.length := by omega
    have hfe := hfx _ (getD_mem hjl facD)
    haveI : InB k.toNat fs.length := ⟨hjl⟩
    have hfk := hnn _ (getD_mem hjl facD)
    have hplen := prF_len (p := p) (m := m) (mod := mod) (l := ld) hnn k.toNat (by omega)
    have htk := fcT_mono (p := p) (m := m) (mod := mod) hnn (show k.toNat + 1 ≤ fs.length by omega)
    have hsuc := fcT_succ (p := p) (m := m) (mod := mod) hjl
    have hdk : 0 ≤ (fcD p m mod (fs.getD k.toNat facD)) * (fs.getD k.toNat facD).k := Int.mul_nonneg (fcD_nn _) hfk
    have hnxt : (prF p m mod ld fs (k + 1).toNat) = (prF p m mod ld fs k.toNat) * Rg.pow (fcP p m mod (fs.getD k.toNat facD)) (fs.getD k.toNat facD).k.toNat := by rw [show (k + 1).toNat = k.toNat + 1 by omega]; rfl
    have hilp := il_length (prF p m mod ld fs k.toNat)
    have hilf := il_length (pol (fs.getD k.toNat facD).r.xs : Po (El p m mod))
    refine tr_draw [0, 1, 2, 3, 4, 5, 6, 7] [] mixed (by kernel_rfl) fun _ _ _ => ?_
    refine sV (rLdS rfl rfl rfl) ?_
    iterate 2 refine pV ?_
    refine sV (rIdxT rfl rfl rfl (by omega) (by omega) (by simp; omega)) ?_
    refine sV (rFld rfl rfl) ?_
    refine sV (rLdG0 rfl rfl (by omega)) ?_
    refine eV (eCallV rfl rfl rfl (ref_PDegree p m A c mod (fs.getD k.toNat facD).r.A _ (fs.getD k.toNat facD).r.cap (fs.getD k.toNat facD).r.xs rfl hfe.1) ⟨rfl, rfl, trivial⟩ ?_)
    refine pV ?_
    refine tC rfl (fun h19 => ?_) (fun h19 => ?_)
    ·try simp only [zbA] at h19
     refine tS ?_
     have hc1 : Po.len (fcP p m mod (fs.getD k.toNat facD)) ≤ 1 := by show Po.len (pol (fs.getD k.toNat facD).r.xs : Po (El p m mod)) ≤ 1; omega
     have hcm := const_mul (g := (prF p m mod ld fs k.toNat)) hc1 (fs.getD k.toNat facD).k.toNat
     refine tr_draw [0, 1, 2, 3, 4, 5, 6, 8, 9, 10, 11, 12, 7, 13, 14, 15, 16, 17, 18] [] mixed (by kernel_rfl) fun _ _ _ => ?_
     refine sV (rLdS rfl rfl rfl) ?_
     refine sV (rLdS rfl rfl rfl) ?_
     iterate 2 refine pV ?_
     refine sV (rIdxT rfl rfl rfl (by omega) (by omega) (by simp; omega)) ?_
     refine sV (rFld rfl rfl) ?_
     refine sV (rLdG0 rfl rfl (by omega)) ?_
     iterate 2 refine pV ?_
     refine sV (rIdxT rfl rfl rfl (by omega) (by omega) (by simp; omega)) ?_
     refine sV (rFld rfl rfl) ?_
     refine sV (rLdG1 rfl rfl (by omega)) ?_
     refine eV (eCallV rfl rfl rfl (ref_PAt p m A c mod (fs.getD k.toNat facD).r.A _ (fs.getD k.toNat facD).r.cap (fs.getD k.toNat facD).r.xs rfl hfe.1 0 (by omega)) ⟨rfl, rfl, rfl, trivial⟩ ?_)
     refine eV (eCallV rfl rfl rfl (ref_PowL p m A c mod (el ((fs.getD k.toNat facD).r.xs.getD (Int.toNat 0) 0) : El p m mod).1 (fs.getD k.toNat facD).k hfk (by omega)) ⟨rfl, rfl, rfl, trivial⟩ ?_)
     iterate 5 refine pV ?_
     refine tS ?_
     refine tR fun _ _ _ => ?_
     refine sV (rLdS rfl rfl rfl) ?_
     iterate 2 refine pV ?_
     refine eV (eCall1 rfl rfl rfl (ref_PScale p m A c mod (Rg.pow (el (el ((fs.getD k.toNat facD).r.xs.getD (Int.toNat 0) 0) : El p m mod).1 : El p m mod) (fs.getD k.toNat facD).k.toNat).1 B _ cb (il (prF p m mod ld fs k.toNat)) rfl (by omega)) ⟨rfl, rfl, rfl, trivial⟩ ?_)
     rintro _ _ ⟨B21, c21, rfl, rfl⟩
     refine pV ?_
     rw [show Int.toNat 0 = 0 from rfl, el_of, el_of, pol_il, ← show (prF p m mod ld fs (k + 1).toNat) = Po.C (Rg.pow (el ((fs.getD k.toNat facD).r.xs.getD 0 0) : El p m mod) (fs.getD k.toNat facD).k.toNat) * (prF p m mod ld fs k.toNat) from hnxt.trans (by rw [hcm]; rfl)]
     refine tE ?_
     refine tR fun _ _ _ => ?_
     refine pV ?_
     refine sV (rAdd rfl rfl rfl (by omega) (by omega)) ?_
     refine pV ?_
     refine ⟨k + 1, B21, c21, il (prF p m mod ld fs (k + 1).toNat), ⟨rfl, rfl, rfl, rfl, trivial⟩, by first | exact cs _ _ | exact CSub.refl _, ?_⟩
     exact ⟨⟨⟨by omega, by omega⟩, rfl⟩, by omega⟩
    ·try simp only [zbA] at h19
     refine tK ?_
     refine tS ?_
     refine tR fun _ _ _ => ?_
     refine pV ?_
     refine tB ?_
     refine tr_loop4 (fun (e : Int) (B2 : Option Addr) (cb2 : Nat) (l2 : List Int) => [(16, .int .i64 e), (12, .slice B2 l2.length cb2), (2, .slice X nx cx), (3, .pointer (some p0)), (13, .int .i64 k), (67, .int .i64 k), (68, .slice X nx cx), (69, .int .i64 nx), (73, .agg #[.int .i64 p, .int .i64 m, .slice A mod.length c]), (74, .slice X nx cx), (75, .int .i64 k)]) (fun (e : Int) (B2 : Option Addr) (cb2 : Nat) (l2 : List Int) => [ow B2 3 cb2 (ints l2), blk p0 24 [.int .i64 p, .int .i64 m, .slice A mod.length c], ro A (ints mod), ro X (prs (fcs fs)), rowsR (rws fs)]) (fun (e : Int) (B2 : Option Addr) (cb2 : Nat) (l2 : List Int) => (0 ≤ e ∧ e ≤ (fs.getD k.toNat facD).k) ∧ l2 = il ((prF p m mod ld fs k.toNat) * Rg.pow (fcP p m mod (fs.getD k.toNat facD)) e.toNat)) (fun (e : Int) (B2 : Option Addr) (cb2 : Nat) (l2 : List Int) => ((fs.getD k.toNat facD).k - e).toNat) (0) (B) (cb) (il (prF p m mod ld fs k.toNat)) ⟨rfl, rfl, rfl, rfl, rfl, rfl, rfl, rfl, rfl, rfl, rfl, trivial⟩ (by first | exact cs _ _ | exact CSub.refl _) (⟨⟨by omega, by omega⟩, by rw [show Int.toNat 0 = 0 from rfl, show Rg.pow (fcP p m mod (fs.getD k.toNat facD)) 0 = 1 from rfl, Rg.mul_one]⟩) (fun e B2 cb2 l2 hI => ?_)
     obtain ⟨⟨he0, he1⟩, hl2e⟩ := hI
     refine tS ?_
     refine tS ?_
     refine tR fun _ _ _ => ?_
     iterate 3 refine pV ?_
     refine sV (rIdxT rfl rfl rfl (by omega) (by omega) (by simp; omega)) ?_
     refine sV (rFld rfl rfl) ?_
     refine sV (rLdG1 rfl rfl (by omega)) ?_
     refine pV ?_
     refine tC rfl (fun h23 => ?_) (fun h23 => ?_)
     ·try simp only [zbA] at h23
      refine tK ?_
      refine tS ?_
      refine tB ?_
      refine tr_draw [0, 1, 2, 3, 4, 5, 6, 7, 8] [] mixed (by kernel_rfl) fun _ _ _ => ?_
      refine sV (rLdS rfl rfl rfl) ?_
      iterate 3 refine pV ?_
      refine sV (rIdxT rfl rfl rfl (by omega) (by omega) (by simp; omega)) ?_
      refine sV (rFld rfl rfl) ?_
      refine sV (rLdG0 rfl rfl (by omega)) ?_
      have hke : (e + 1).toNat = e.toNat + 1 := by omega
      have hl2l : l2.length ≤ 257 := by
       have h1 := len_mul_lt ((prF p m mod ld fs k.toNat)) (Rg.pow (fcP p m mod (fs.getD k.toNat facD)) e.toNat)
       have h2 := len_pow_le (f := (fcP p m mod (fs.getD k.toNat facD))) e.toNat
       have h4 : ((e.toNat * (Po.len (fcP p m mod (fs.getD k.toNat facD)) - 1) : Nat) : Int) ≤ (fcD p m mod (fs.getD k.toNat facD)) * (fs.getD k.toNat facD).k := by
        have h5 : ((Po.len (fcP p m mod (fs.getD k.toNat facD)) - 1 : Nat) : Int) = (fcD p m mod (fs.getD k.toNat facD)) := by unfold fcD; omega
        rw [Int.natCast_mul, h5, Int.mul_comm]
        exact Int.mul_le_mul_of_nonneg_left (by omega) (fcD_nn _)
       rw [hl2e, il_length]; omega
      have hcl : (il (pol (fs.getD k.toNat facD).r.xs : Po (El p m mod))).length ≤ 1000000 := by
       have h5 : ((Po.len (fcP p m mod (fs.getD k.toNat facD)) - 1 : Nat) : Int) = (fcD p m mod (fs.getD k.toNat facD)) := by unfold fcD; omega
       have h6 : Po.len (fcP p m mod (fs.getD k.toNat facD)) = (il (pol (fs.getD k.toNat facD).r.xs : Po (El p m mod))).length := by rw [il_length]; rfl
       have h7 : (fcD p m mod (fs.getD k.toNat facD)) * 1 ≤ (fcD p m mod (fs.getD k.toNat facD)) * (fs.getD k.toNat facD).k := Int.mul_le_mul_of_nonneg_left (by omega) (fcD_nn _)
       have h9 : 0 ≤ fcT p m mod fs k.toNat := sumF_nn (fcT_nn (p := p) (m := m) (mod := mod) hnn) k.toNat
       omega
      have hml : (pol l2 : Po (El p m mod)) * pol (fs.getD k.toNat facD).r.xs = (prF p m mod ld fs k.toNat) * Rg.pow (fcP p m mod (fs.getD k.toNat facD)) (e + 1).toNat := by
       rw [hl2e, pol_il, hke, Rg.pow_succ, Rg.mul_assoc]; rfl
      refine eV (eCall1 rfl rfl rfl (ref_PMulL p m A c mod B2 _ cb2 l2 rfl (by omega) (fs.getD k.toNat facD).r.A _ (fs.getD k.toNat facD).r.cap (fs.getD k.toNat facD).r.xs rfl hfe.1 (by omega)) ⟨rfl, rfl, rfl, trivial⟩ ?_)
      rintro _ _ ⟨B25, c25, rfl, rfl⟩
      refine pV ?_
      rw [hml]
      refine tR fun _ _ _ => ?_
      refine pV ?_
      refine sV (rAdd rfl rfl rfl (by omega) (by omega)) ?_
      refine pV ?_
      refine ⟨e + 1, B25, c25, il ((prF p m mod ld fs k.toNat) * Rg.pow (fcP p m mod (fs.getD k.toNat facD)) (e + 1).toNat), ⟨rfl, rfl, rfl, rfl, rfl, rfl, rfl, rfl, rfl, rfl, rfl, trivial⟩, by first | exact cs _ _ | exact CSub.refl _, ?_⟩
      exact ⟨⟨⟨by omega, by omega⟩, rfl⟩, by omega⟩
     ·try simp only [zbA] at h23
      refine tE ?_
      refine tR fun _ _ _ => ?_
      refine pV ?_
      refine sV (rAdd rfl rfl rfl (by omega) (by omega)) ?_
      refine pV ?_
      refine ⟨k + 1, B2, cb2, l2, ⟨rfl, rfl, rfl, rfl, trivial⟩, by first | exact cs _ _ | exact CSub.refl _, ?_⟩
      exact ⟨⟨⟨by omega, by omega⟩, by rw [hnxt, hl2e, show e.toNat = (fs.getD k.toNat facD).k.toNat by omega]⟩, by omega⟩
   ·try simp only [zbA] at h17
    refine tE ?_
    refine tS ?_
    refine tR fun _ _ _ => ?_
    iterate 3 refine pV ?_
    have hkn : k.toNat = fs.length := by omega
    rw [hkn]
    exact tr_ret ⟨trivial, _, _, rfl, ⟨_, rfl, B, cb, rfl, rfl⟩, cs _ _, trivial, trivial⟩
theorem ref_SameInts6_ent : Enters Try.prog 23 := enters_of Try.func23 (by kernel_rfl) (by kernel_rfl)
theorem ref_SameInts6 (X : Option Addr) (nx cx : Nat) (l : List Int) (hnx : nx = l.length) (Y : Option Addr) (ny cy : Nat) (y : List Int) (hny : ny = y.length) (h9 : l.length ≤ 17592186044415) :
  Pure Try.prog 23 #[.slice X nx cx, .slice Y ny cy] [ro X (ints l), ro Y (ints y)] (isV (.bool (decide (l = y)))) := by
 refine pure_of (args := [.slice X nx cx, .slice Y ny cy]) 26 Try.func23 rfl rfl rfl ref_SameInts6_ent ⟨id, id, trivial⟩ (fun w0 => ?_)
 refine tS ?_
 refine tR fun _ _ _ => ?_
 refine pV ?_
 refine tS ?_
 refine tS ?_
 refine tR fun _ _ _ => ?_
 refine pV ?_
 refine sV (rLen rfl rfl) ?_
 refine pV ?_
 refine sV (rLen rfl rfl) ?_
 refine pV ?_
 refine tC rfl (fun h1 => ?_) (fun h1 => ?_)
 ·try simp only [zbA] at h1
  refine tS ?_
  refine tR fun _ _ _ => ?_
  refine pV ?_
  exact tr_ret ⟨trivial, _, _, rfl, ⟨by rw [decide_eq_false (fun h => by rw [h] at hnx; omega)], rfl⟩, CSub.nil _, trivial⟩
 ·try simp only [zbA] at h1
  refine tK ?_
  refine tS ?_
  refine tS ?_
  refine tR fun _ _ _ => ?_
  refine pV ?_
  refine tB ?_
  refine tr_loop1 (fun (i : Nat) => [(5, .int .i64 i), (0, .slice X nx cx), (1, .slice Y ny cy)]) (fun (i : Nat) => [ro X (ints l), ro Y (ints y)]) (fun (i : Nat) => i ≤ l.length ∧ l.take i = y.take i) (fun (i : Nat) => l.length - i) (0) ⟨rfl, rfl, rfl, trivial⟩ (by first | exact cs _ _ | exact CSub.refl _) (⟨by omega, rfl⟩) (fun i hI => ?_)
  obtain ⟨hi, ht⟩ := hI
  have hll : l.length = y.length := by omega
  refine tS ?_
  refine tS ?_
  refine tR fun _ _ _ => ?_
  iterate 2 refine pV ?_
  refine sV (rLen rfl rfl) ?_
  refine pV ?_
  refine tC rfl (fun h4 => ?_) (fun h4 => ?_)
  ·try simp only [zbA] at h4
   refine tK ?_
   refine tS ?_
   refine tB ?_
   refine tS ?_
   refine tr_draw [0, 1, 2, 3, 4, 5, 6, 7, 8] [] mixed (by kernel_rfl) fun _ _ _ => ?_
   iterate 2 refine pV ?_
   refine sV (rIdxI rfl rfl rfl (by omega) (by omega) (by omega)) ?_
   refine sV (rLdI rfl rfl (by omega)) ?_
   iterate 2 refine pV ?_
   refine sV (rIdxI rfl rfl rfl (by omega) (by omega) (by omega)) ?_
   refine sV (rLdI rfl rfl (by omega)) ?_
   refine pV ?_
   refine tC rfl (fun h6 => ?_) (fun h6 => ?_)
   ·try simp only [zbA] at h6
    refine tS ?_
    refine tR fun _ _ _ => ?_
    refine pV ?_
    exact tr_ret ⟨trivial, _, _, rfl, ⟨by rw [decide_eq_false (fun h => h6 (by rw [h]))], rfl⟩, CSub.nil _, trivial⟩
   ·try simp only [zbA] at h6
    refine tK ?_
    refine tR fun _ _ _ => ?_
    refine pV ?_
    refine sV (rAdd rfl rfl rfl (by omega) (by omega)) ?_
    refine pV ?_
    refine ⟨i + 1, ⟨rfl, rfl, rfl, trivial⟩, by first | exact cs _ _ | exact CSub.refl _, ?_⟩
    exact ⟨⟨by omega, take_eq_next 0 l y hll (by omega) ht (by simpa using h6)⟩, by omega⟩
  ·try simp only [zbA] at h4
   refine tE ?_
   refine tS ?_
   refine tR fun _ _ _ => ?_
   refine pV ?_
   have hia : i = l.length := by omega
   rw [hia, List.take_length, hll, List.take_length] at ht
   exact tr_ret ⟨trivial, _, _, rfl, ⟨by rw [decide_eq_true ht], rfl⟩, CSub.nil _, trivial⟩
end Go.Proofs.Ytbhoeaijpnjgdaa

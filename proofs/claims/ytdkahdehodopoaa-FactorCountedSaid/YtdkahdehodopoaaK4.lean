/-
  FACTORCOUNTED, PART 4 OF 8. One sentence: the texts behind the law FactorCounted, put together.
  Conditions: each theorem's own, written out in it.
-/
import Derived.Deep.SlicePairs
import Derived.Calls
import Derived.Sort.Grow
import Derived.Shelf.SlSortCmp.InsertionK
import Derived.Sort.OwnSorted
import Derived.Test.YtdkahdehodopoaaK3
set_option linter.unusedSimpArgs false
set_option linter.unusedVariables false
set_option linter.unusedSectionVars false
set_option maxRecDepth 100000
namespace Go.Proofs.Ytdkahdehodopoaa
open Go.RowKit
instance tyPw : AgTy Try.prog 74 2 := agTy_of (by kernel_rfl)
instance tyPw0 : FdTy Try.prog 74 0 0 := ⟨by kernel_rfl⟩
instance tyPw1 : FdTy Try.prog 74 1 1 := ⟨by kernel_rfl⟩
instance zrPw : ZrTy Try.prog 74 [.int .i64 0, .int .i64 0] := ⟨.agg #[.int .i64 0, .int .i64 0], by kernel_rfl, rfl⟩
instance bdPw : BdTy Try.prog 74 [.int .i64 0, .int .i64 0] [(0, 1), (1, 1)] := bdTy_of (z := .agg #[.int .i64 0, .int .i64 0]) (by kernel_rfl) (by kernel_rfl) (by kernel_rfl) rfl
instance ssPw : SsTy Try.prog 67 74 2 := ⟨by kernel_rfl, by kernel_rfl⟩
instance s2Pw : S2Ty Try.prog 67 74 16 := ⟨by kernel_rfl, .agg #[.int .i64 0, .int .i64 0], by kernel_rfl, rfl⟩
instance tySPw : ScTy Try.prog 67 := scTy_of (by kernel_rfl)
def pws (ps : List (Int × Int)) : List (Value × Value) := ps.map fun q => (.int .i64 q.1, .int .i64 q.2)
@[simp] theorem pws_length (ps : List (Int × Int)) : (pws ps).length = ps.length := by simp [pws]
theorem pws_app (ps qs : List (Int × Int)) : pws (ps ++ qs) = pws ps ++ pws qs := by simp [pws]
theorem pws_get (ps : List (Int × Int)) (j : Nat) (h : j < ps.length) : (pws ps).getD j prD = (.int .i64 (ps.getD j (0, 0)).1, .int .i64 (ps.getD j (0, 0)).2) := by
 unfold pws
 rw [List.getD_eq_getElem?_getD, List.getElem?_map, List.getD_eq_getElem?_getD, List.getElem?_eq_getElem h]; rfl
def PrL (n : Nat) (ps : List (Int × Int)) : Prop := (∀ q ∈ ps, 2 ≤ q.1) ∧ ∀ r : Nat, (∃ q ∈ ps, q.1 = (r : Int)) ↔ (2 ≤ r ∧ (∀ u, 2 ≤ u → u ∣ r → u = r) ∧ r ∣ n)
theorem prL_one : PrL 1 [] := ⟨fun q h => by simp at h, fun r => ⟨fun ⟨q, h, _⟩ => by simp at h, fun ⟨h, _, h1⟩ => by have := Nat.dvd_one.1 h1; omega⟩⟩
theorem prL_two : PrL 2 [(2, 1)] := ⟨fun q h => by simp at h; subst h; exact Int.le_refl _, fun r => by
 constructor
 ·rintro ⟨q, h, h1⟩
  simp at h; subst h
  have hr : r = 2 := by simp at h1; omega
  subst hr
  refine ⟨Nat.le_refl _, fun u h2 hu => ?_, Nat.dvd_refl _⟩
  have := Nat.le_of_dvd (by omega) hu
  omega
 ·rintro ⟨h, _, h1⟩
  have := Nat.le_of_dvd (by omega) h1
  exact ⟨(2, 1), by simp, by simp; omega⟩⟩
theorem num_least2_ent : Enters Try.prog 62 := enters_of Try.func62 (by kernel_rfl) (by kernel_rfl)
theorem num_least2  :
  Pure Try.prog 62 #[.int .i64 2] [] (isV (.int .i64 2)) := by
 refine pure_of (args := [.int .i64 2]) 46 Try.func62 rfl rfl rfl num_least2_ent trivial (fun w0 => ?_)
 refine tS ?_
 refine tR fun _ _ _ => ?_
 refine pV ?_
 refine tr_scope ?_
 refine tS ?_
 refine tS ?_
 refine tR fun _ _ _ => ?_
 refine eV (eLit3I rfl rfl rfl rfl rfl rfl (fun A1 => ?_))
 refine sV (rLen rfl rfl) ?_
 refine pV ?_
 refine tB ?_
 refine tr_loop1 (fun (k : Int) => [(12, .int .i64 k), (10, .slice A1 3 3), (11, .int .i64 3), (0, .int .i64 2)]) (fun (k : Int) => [ow A1 3 3 (ints [2, 3, 5])]) (fun (k : Int) => k = 0) (fun (k : Int) => 0) (0) ⟨rfl, rfl, rfl, rfl, trivial⟩ (by first | exact cs _ _ | exact CSub.refl _) (rfl) (fun k hI => ?_)
 subst hI
 refine tS ?_
 refine tR fun _ _ _ => ?_
 refine pV ?_
 refine tS ?_
 refine tC rfl (fun h2 => ?_) (fun h2 => ?_)
 ·try simp only [zbA] at h2
  refine tK ?_
  refine tS ?_
  refine tB ?_
  refine tS ?_
  refine tR fun _ _ _ => ?_
  refine sV (rIdxI rfl rfl rfl (by omega) (by omega) (by simp)) ?_
  refine sV (rLdI rfl rfl (by simp)) ?_
  refine pV ?_
  refine tS ?_
  rw [show ([2, 3, 5] : List Int).getD (Int.toNat 0) 0 = 2 from rfl]
  refine tR fun _ _ _ => ?_
  iterate 2 refine pV ?_
  refine sV (rRem rfl rfl rfl (by omega) (by omega)) ?_
  refine pV ?_
  refine tC rfl (fun h4 => ?_) (fun h4 => ?_)
  ·try simp only [zbA] at h4
   refine tS ?_
   refine tR fun _ _ _ => ?_
   iterate 2 refine pV ?_
   exact tr_ret ⟨trivial, _, _, rfl, ⟨rfl, rfl⟩, CSub.nil _, trivial⟩
  ·try simp only [zbA] at h4
   exact absurd (by decide) h4 --done
 ·try simp only [zbA] at h2
  omega --done
theorem num_Factor1_ent : Enters Try.prog 30 := enters_of Try.func30 (by kernel_rfl) (by kernel_rfl)
theorem num_Factor1  :
  Pure Try.prog 30 #[.int .i64 1] [] (one (fun v ch => ∃ B c, v = .tuple #[.slice B ([] : List (Int × Int)).length c, .int .i64 0] ∧ ch = ow2 B 74 c (pws []))) := by
 refine pure_of (args := [.int .i64 1]) 32 Try.func30 rfl rfl rfl num_Factor1_ent trivial (fun w0 => ?_)
 refine tS ?_
 refine tR fun _ _ _ => ?_
 iterate 2 refine pV ?_
 refine tS ?_
 refine tS ?_
 refine tR fun _ _ _ => ?_
 refine pV ?_
 refine eV (eCallV rfl rfl rfl (num_in 1 1) ⟨rfl, rfl, trivial⟩ ?_)
 refine sV (rNotB rfl rfl) ?_
 refine tC rfl (fun h1 => ?_) (fun h1 => ?_)
 ·try simp only [zbA] at h1
  simp at h1 --done
 ·try simp only [zbA] at h1
  refine tK ?_
  refine tS ?_
  refine tR fun _ _ _ => ?_
  refine pV ?_
  refine tS ?_
  refine tB ?_
  refine tr_nil2 74 ?_
  refine tr_loop1 (fun (n : Int) => [(0, .int .i64 n), (4, .slice none 0 0), (2, .slice none 0 0), (3, .int .i64 0)]) (fun (n : Int) => [ow2 none 74 0 []]) (fun (n : Int) => n = 1) (fun (n : Int) => 0) (1) ⟨rfl, rfl, rfl, rfl, trivial⟩ (by first | exact cs _ _ | exact CSub.refl _) (rfl) (fun n hI => ?_)
  subst hI
  refine tS ?_
  refine tS ?_
  refine tR fun _ _ _ => ?_
  iterate 2 refine pV ?_
  refine tC rfl (fun h4 => ?_) (fun h4 => ?_)
  ·try simp only [zbA] at h4
   simp at h4 --done
  ·try simp only [zbA] at h4
   refine tE ?_
   refine tS ?_
   refine tr_chunks [ow2 none 74 0 (pws [])] (CSub.refl _) ?_
   refine tR fun _ _ _ => ?_
   iterate 3 refine pV ?_
   exact tr_ret ⟨trivial, _, _, rfl, ⟨_, rfl, none, 0, rfl, rfl⟩, cs _ _, trivial, trivial⟩
theorem num_Factor2_ent : Enters Try.prog 30 := enters_of Try.func30 (by kernel_rfl) (by kernel_rfl)
theorem num_Factor2  :
  Pure Try.prog 30 #[.int .i64 2] [] (one (fun v ch => ∃ B c, v = .tuple #[.slice B ([(2, 1)] : List (Int × Int)).length c, .int .i64 0] ∧ ch = ow2 B 74 c (pws [(2, 1)]))) := by
 refine pure_of (args := [.int .i64 2]) 32 Try.func30 rfl rfl rfl num_Factor2_ent trivial (fun w0 => ?_)
 refine tS ?_
 refine tR fun _ _ _ => ?_
 iterate 2 refine pV ?_
 refine tS ?_
 refine tS ?_
 refine tR fun _ _ _ => ?_
 refine pV ?_
 refine eV (eCallV rfl rfl rfl (num_in 2 1) ⟨rfl, rfl, trivial⟩ ?_)
 refine sV (rNotB rfl rfl) ?_
 refine tC rfl (fun h1 => ?_) (fun h1 => ?_)
 ·try simp only [zbA] at h1
  simp at h1 --done
 ·try simp only [zbA] at h1
  refine tK ?_
  refine tS ?_
  refine tR fun _ _ _ => ?_
  refine pV ?_
  refine tS ?_
  refine tB ?_
  refine tr_nil2 74 ?_
  refine tr_loop4 (fun (n : Int) (B : Option Addr) (cb : Nat) (ps : List (Int × Int)) => [(0, .int .i64 n), (4, .slice B ps.length cb), (2, .slice none 0 0), (3, .int .i64 0)]) (fun (n : Int) (B : Option Addr) (cb : Nat) (ps : List (Int × Int)) => [ow2 B 74 cb (pws ps)]) (fun (n : Int) (B : Option Addr) (cb : Nat) (ps : List (Int × Int)) => (n = 2 ∧ ps = []) ∨ (n = 1 ∧ ps = [(2, 1)])) (fun (n : Int) (B : Option Addr) (cb : Nat) (ps : List (Int × Int)) => n.toNat) (2) (none) (0) ([]) ⟨rfl, rfl, rfl, rfl, trivial⟩ (by first | exact cs _ _ | exact CSub.refl _) (.inl ⟨rfl, rfl⟩) (fun n B cb ps hI => ?_)
  refine tS ?_
  refine tS ?_
  refine tR fun _ _ _ => ?_
  iterate 2 refine pV ?_
  refine tC rfl (fun h4 => ?_) (fun h4 => ?_)
  ·try simp only [zbA] at h4
   refine tK ?_
   refine tB ?_
   refine tS ?_
   obtain ⟨rfl, rfl⟩ : n = 2 ∧ ps = [] := hI.resolve_right (fun h => by omega)
   refine tR fun _ _ _ => ?_
   refine pV ?_
   refine eV (eCallV rfl rfl rfl (num_least2) ⟨rfl, trivial⟩ ?_)
   refine pV ?_
   refine tS ?_
   refine tR fun _ _ _ => ?_
   refine pV ?_
   refine sV (rBuild rfl rfl) ?_
   refine eV (eAlloc rfl rfl rfl (fun p6 => ?_))
   refine eV (eStS rfl rfl rfl rfl rfl rfl ?_)
   refine tS ?_
   refine tB ?_
   refine tr_loop2 (fun (t : Int) (e : Int) => [(0, .int .i64 t), (4, .slice B ([] : List (Int × Int)).length cb), (5, .int .i64 2), (2, .slice none 0 0), (3, .int .i64 0), (6, .pointer (some p6))]) (fun (t : Int) (e : Int) => [blk p6 74 [.int .i64 2, .int .i64 e], ow2 B 74 cb (pws [])]) (fun (t : Int) (e : Int) => (t = 2 ∧ e = 0) ∨ (t = 1 ∧ e = 1)) (fun (t : Int) (e : Int) => t.toNat) (2) (0) ⟨rfl, rfl, rfl, rfl, rfl, rfl, trivial⟩ (by first | exact cs _ _ | exact CSub.refl _) (.inl ⟨rfl, rfl⟩) (fun t e hI => ?_)
   refine tS ?_
   refine tS ?_
   refine tR fun _ _ _ => ?_
   iterate 2 refine pV ?_
   refine sV (rRem rfl rfl rfl (by omega) (by omega)) ?_
   refine pV ?_
   refine tC rfl (fun h7 => ?_) (fun h7 => ?_)
   ·try simp only [zbA] at h7
    refine tK ?_
    refine tB ?_
    refine tS ?_
    obtain ⟨rfl, rfl⟩ : t = 2 ∧ e = 0 := by omega
    refine tR fun _ _ _ => ?_
    refine sV (rFld rfl rfl) ?_
    refine sV (rLdF rfl rfl rfl) ?_
    refine sV (rAdd rfl rfl rfl (by omega) (by omega)) ?_
    refine sV (rFld rfl rfl) ?_
    refine eV (eStF rfl rfl rfl rfl rfl (by simp) rfl rfl ?_)
    refine tR fun _ _ _ => ?_
    iterate 2 refine pV ?_
    refine sV (rQuo rfl rfl rfl (by omega) (by omega)) ?_
    refine pV ?_
    refine ⟨1, 1, ⟨rfl, rfl, rfl, rfl, rfl, rfl, trivial⟩, by first | exact cs _ _ | exact CSub.refl _, ?_⟩
    exact ⟨.inr ⟨rfl, rfl⟩, by omega⟩
   ·try simp only [zbA] at h7
    refine tE ?_
    obtain ⟨rfl, rfl⟩ : t = 1 ∧ e = 1 := hI.resolve_left (fun h => h7 (by rw [h.1]; rfl))
    refine tR fun _ _ _ => ?_
    refine pV ?_
    refine sV (rLdS rfl rfl rfl) ?_
    refine eV (eLitS rfl rfl rfl rfl (fun p10 => ?_))
    refine eV (eApp2 rfl rfl rfl rfl rfl (by first | rfl | simp | omega) rfl (by first | (simp; done) | (simp; omega)) (by first | (simp; done) | (simp; omega)) (fun A10a c10a => ?_))
    refine pV ?_
    rw [show pws [] ++ [((Value.int .i64 2 : Value), (Value.int .i64 1 : Value))] = pws [(2, 1)] from rfl]
    refine ⟨1, A10a, c10a, [(2, 1)], ⟨rfl, rfl, rfl, rfl, trivial⟩, by first | exact cs _ _ | exact CSub.refl _, ?_⟩
    exact ⟨.inr ⟨rfl, rfl⟩, by omega⟩
  ·try simp only [zbA] at h4
   refine tE ?_
   refine tS ?_
   refine tR fun _ _ _ => ?_
   iterate 3 refine pV ?_
   obtain ⟨rfl, rfl⟩ : n = 1 ∧ ps = [(2, 1)] := hI.resolve_left (fun h => h4 (by rw [h.1]; decide))
   exact tr_ret ⟨trivial, _, _, rfl, ⟨_, rfl, B, cb, rfl, rfl⟩, cs _ _, trivial, trivial⟩
def facE (l : Nat) : Int := if l = 0 then 7 else if l > 257 then 8 else 0
theorem facE_ok {l : Nat} (h : facE l = 0) : 1 ≤ l ∧ l ≤ 257 := by
 unfold facE at h
 split at h
 ·omega
 ·split at h <;> omega
theorem ne_of_len {p m : Int} {mod : List Int} [hF : IsF p m mod] {f : Po (El p m mod)} (h : 1 ≤ Po.len f) : f ≠ 0 := Po.len_pos_iff.1 (by omega)
theorem fac_enter_ent : Enters Try.prog 29 := enters_of Try.func29 (by kernel_rfl) (by kernel_rfl)
theorem fac_enter (g : GfM) {p m : Int} {mod : List Int} [hF : IsF p m mod] (hg : GOk g p m mod) (A : Option Addr) (n c : Nat) (a : List Int) (hn : n = a.length) (ha9 : a.length ≤ 17592186044415) (he : facE (Po.len (pol a : Po (El p m mod))) = 0) :
  Pure Try.prog 29 #[.pointer (some g.p), .slice A n c] [gfR g, ro A (ints a)] (one (fun v ch => ∃ B cap, v = .tuple #[.slice B (il (pol a : Po (El p m mod))).length cap, .int .i64 0] ∧ (il (pol a : Po (El p m mod))).length ≤ cap ∧ ch = ow B 3 cap (ints (il (pol a : Po (El p m mod)))))) := by
 have hil := il_length (pol a : Po (El p m mod))
 have hle := facE_ok he
 refine pure_of (args := [.pointer (some g.p), .slice A n c]) 20 Try.func29 rfl rfl rfl fac_enter_ent ⟨id, id, trivial⟩ (fun w0 => ?_)
 refine tS ?_
 refine tR fun _ _ _ => ?_
 iterate 2 refine pV ?_
 refine tS ?_
 refine tR fun _ _ _ => ?_
 iterate 2 refine pV ?_
 refine eV (eCall1 rfl rfl rfl (poly_CanonE g hg A n c a hn (by omega)) ⟨rfl, rfl, trivial⟩ ?_)
 rintro _ _ ⟨B1, c1, rfl, hc1, rfl⟩
 refine pV ?_
 refine tS ?_
 refine tB ?_
 refine tS ?_
 refine tR fun _ _ _ => ?_
 refine pV ?_
 refine sV (rLen rfl rfl) ?_
 iterate 2 refine pV ?_
 refine tC rfl (fun h2 => ?_) (fun h2 => ?_)
 ·try simp only [zbA] at h2
  omega --done
 ·try simp only [zbA] at h2
  refine tS ?_
  refine tR fun _ _ _ => ?_
  refine pV ?_
  refine sV (rLen rfl rfl) ?_
  refine sV (rSub rfl rfl rfl (by omega) (by omega)) ?_
  iterate 2 refine pV ?_
  refine tC rfl (fun h4 => ?_) (fun h4 => ?_)
  ·try simp only [zbA] at h4
   omega --done
  ·try simp only [zbA] at h4
   refine tK ?_
   refine tS ?_
   refine tR fun _ _ _ => ?_
   iterate 3 refine pV ?_
   exact tr_ret ⟨trivial, _, _, rfl, ⟨_, rfl, B1, c1, rfl, hc1, rfl⟩, cs _ _, trivial, trivial⟩
theorem poly_Degree_ent : Enters Try.prog 33 := enters_of Try.func33 (by kernel_rfl) (by kernel_rfl)
theorem poly_Degree (g : GfM) {p m : Int} {mod : List Int} [hF : IsF p m mod] (hg : GOk g p m mod) (A : Option Addr) (n c : Nat) (a : List Int) (hn : n = a.length) (ha9 : a.length ≤ 17592186044415) :
  Pure Try.prog 33 #[.pointer (some g.p), .slice A n c] [gfR g, ro A (ints a)] (isV (.int .i64 ((Po.len (pol a : Po (El p m mod)) : Int) - 1))) := by
 have hil := il_length (pol a : Po (El p m mod))
 have hle := il_le (p := p) (m := m) (mod := mod) a
 refine pure_of (args := [.pointer (some g.p), .slice A n c]) 10 Try.func33 rfl rfl rfl poly_Degree_ent ⟨id, id, trivial⟩ (fun w0 => ?_)
 refine tS ?_
 refine tR fun _ _ _ => ?_
 refine pV ?_
 refine tS ?_
 refine tR fun _ _ _ => ?_
 iterate 2 refine pV ?_
 refine eV (eCall1 rfl rfl rfl (poly_CanonE g hg A n c a hn (by omega)) ⟨rfl, rfl, trivial⟩ ?_)
 rintro _ _ ⟨B1, c1, rfl, hc1, rfl⟩
 refine sV (rLen rfl rfl) ?_
 refine sV (rSub rfl rfl rfl (by omega) (by omega)) ?_
 refine pV ?_
 exact tr_ret ⟨trivial, _, _, rfl, ⟨by rw [hil], rfl⟩, CSub.nil _, trivial⟩
section
variable {p m : Int} {mod : List Int} [hF : IsF p m mod]
theorem pol_one1 : (pol [1] : Po (El p m mod)) = 1 := Po.ext fun j => by
 have hq := hF.q2
 rw [cf_pol, Po.cf_one]
 match j with
 | 0 => rw [List.getD_cons_zero, if_pos rfl]; exact el_one
 | j + 1 => rw [List.getD_cons_succ, List.getD_nil, if_neg (by omega), el_zero]
theorem fpow_congr {M x y : Po (El p m mod)} (h : M ∣ x - y) : ∀ n, M ∣ Rg.pow x n - Rg.pow y n
 | 0 => ⟨0, by show (1 : Po (El p m mod)) - 1 = M * 0; grind⟩
 | n + 1 => by
  obtain ⟨a, ha⟩ := h
  obtain ⟨c, hc⟩ := fpow_congr ⟨a, ha⟩ n
  rw [Rg.pow_succ, Rg.pow_succ]
  generalize Rg.pow x n = X1 at *
  generalize Rg.pow y n = Y1 at *
  exact ⟨c * x + Y1 * a, by grind⟩
theorem fpow_dbl (b : Po (El p m mod)) (n : Nat) : Rg.pow (b * b) n = Rg.pow b (2 * n) := by rw [Rg.mul_pow, ← Rg.pow_add, Nat.two_mul]
theorem rem_pow_step {M f b : Po (El p m mod)} {k : Nat} {W : Po (El p m mod)} (hM : M ≠ 0) (h : M ∣ f * Rg.pow b k - W) : (k % 2 = 1 → M ∣ Po.rem (f * b) M * Rg.pow (Po.rem (b * b) M) (k / 2) - W) ∧ (k % 2 ≠ 1 → M ∣ f * Rg.pow (Po.rem (b * b) M) (k / 2) - W) := by
 have h1 := Po.rem_sub_dvd (f * b) hM
 have h2 := Po.rem_sub_dvd (b * b) hM
 have h3 : ∀ n, M ∣ Rg.pow (b * b) n - Rg.pow (Po.rem (b * b) M) n := fun n => fpow_congr h2 n
 have h4 : ∀ n, Rg.pow (b * b) n = Rg.pow b (2 * n) := fun n => fpow_dbl b n
 constructor
 ·intro hk
  obtain ⟨x1, e1⟩ := h1
  obtain ⟨x3, e3⟩ := h3 (k / 2)
  obtain ⟨x, e⟩ := h
  have hk2 : k = 2 * (k / 2) + 1 := by omega
  rw [h4] at e3
  rw [hk2, Rg.pow_succ] at e
  generalize Po.rem (f * b) M = r1 at *
  generalize Rg.pow (Po.rem (b * b) M) (k / 2) = r3 at *
  generalize Rg.pow b (2 * (k / 2)) = P3 at *
  exact ⟨x - x1 * P3 - r1 * x3, by grind⟩
 ·intro hk
  obtain ⟨x3, e3⟩ := h3 (k / 2)
  obtain ⟨x, e⟩ := h
  have hk2 : k = 2 * (k / 2) := by omega
  rw [h4] at e3
  rw [hk2] at e
  generalize Rg.pow (Po.rem (b * b) M) (k / 2) = r3 at *
  generalize Rg.pow b (2 * (k / 2)) = P3 at *
  exact ⟨x - f * x3, by grind⟩
theorem rem_uniq {M f W : Po (El p m mod)} (hM : M ≠ 0) (hl : Po.len f < Po.len M) (h : M ∣ f - W) : f = Po.rem W M := by
 rw [← Po.rem_small hl]; exact (Po.rem_eq_iff hM).2 h
end
section
variable {p m : Int} {mod : List Int} [hF : IsF p m mod]
theorem len_mul_le (f g : Po (El p m mod)) : Po.len (f * g) ≤ Po.len f + Po.len g := by
 by_cases hf : f = 0
 ·rw [hf, Rg.zero_mul, Po.len_zero]; omega
 ·by_cases hg : g = 0
  ·rw [hg, Rg.mul_zero, Po.len_zero]; omega
  ·rw [Po.len_mul hf hg]; omega
theorem rem_pow_start {M W : Po (El p m mod)} (hM : M ≠ 0) (n : Nat) : M ∣ Po.rem 1 M * Rg.pow (Po.rem W M) n - Rg.pow W n := by
 obtain ⟨a, ha⟩ := Po.rem_sub_dvd (1 : Po (El p m mod)) hM
 obtain ⟨c, hc⟩ := fpow_congr (Po.rem_sub_dvd W hM) n
 generalize Po.rem 1 M = r at *
 generalize Rg.pow (Po.rem W M) n = X1 at *
 generalize Rg.pow W n = Y1 at *
 exact ⟨-(c + a * X1), by grind⟩
end
theorem poly_PowMod_ent : Enters Try.prog 67 := enters_of Try.func67 (by kernel_rfl) (by kernel_rfl)
theorem poly_PowMod (g : GfM) {p m : Int} {mod : List Int} [hF : IsF p m mod] (hg : GOk g p m mod) (A : Option Addr) (n c : Nat) (a : List Int) (hn : n = a.length) (ha9 : a.length ≤ 1000000) (k : Int) (hk0 : 0 ≤ k) (hk9 : k ≤ 1000000) (C : Option Addr) (nc d2 : Nat) (ml : List Int) (hnc : nc = ml.length) (hm9 : ml.length ≤ 1000000) (he : facE (Po.len (pol ml : Po (El p m mod))) = 0) :
  Pure Try.prog 67 #[.pointer (some g.p), .slice A n c, .int .i64 k, .slice C nc d2] [gfR g, ro A (ints a), ro C (ints ml)] (one (fun v ch => ∃ B cap, v = .tuple #[.slice B (il (Po.rem (Rg.pow (pol a : Po (El p m mod)) k.toNat) (pol ml : Po (El p m mod)))).length cap, .int .i64 0] ∧ ch = ow B 3 cap (ints (il (Po.rem (Rg.pow (pol a : Po (El p m mod)) k.toNat) (pol ml : Po (El p m mod))))))) := by
 have hil := il_length (pol ml : Po (El p m mod))
 have hml := facE_ok he
 have hm0 := ne_of_len hml.1
 refine pure_of (args := [.pointer (some g.p), .slice A n c, .int .i64 k, .slice C nc d2]) 77 Try.func67 rfl rfl rfl poly_PowMod_ent ⟨id, id, id, trivial⟩ (fun w0 => ?_)
 refine tS ?_
 refine tR fun _ _ _ => ?_
 iterate 2 refine pV ?_
 refine tS ?_
 refine tR fun _ _ _ => ?_
 iterate 2 refine pV ?_
 refine eV (eCall1 rfl rfl rfl (poly_CanonE g hg C nc d2 ml hnc (by omega)) ⟨rfl, rfl, trivial⟩ ?_)
 rintro _ _ ⟨B1, c1, rfl, hc1, rfl⟩
 refine pV ?_
 refine tS ?_
 refine tB ?_
 refine tS ?_
 refine tR fun _ _ _ => ?_
 refine pV ?_
 refine sV (rLen rfl rfl) ?_
 iterate 2 refine pV ?_
 refine tC rfl (fun h2 => ?_) (fun h2 => ?_)
 ·try simp only [zbA] at h2
  omega --done
 ·try simp only [zbA] at h2
  refine tS ?_
  refine tR fun _ _ _ => ?_
  refine pV ?_
  refine sV (rLen rfl rfl) ?_
  refine sV (rSub rfl rfl rfl (by omega) (by omega)) ?_
  iterate 2 refine pV ?_
  refine tC rfl (fun h4 => ?_) (fun h4 => ?_)
  ·try simp only [zbA] at h4
   omega --done
  ·try simp only [zbA] at h4
   refine tS ?_
   refine tR fun _ _ _ => ?_
   iterate 3 refine pV ?_
   refine tC rfl (fun h6 => ?_) (fun h6 => ?_)
   ·try simp only [zbA] at h6
    omega --done
   ·try simp only [zbA] at h6
    refine tK ?_
    refine tS ?_
    refine tR fun _ _ _ => ?_
    refine pV ?_
    refine eV (eLit1I rfl rfl rfl rfl (fun A8 => ?_))
    refine pV ?_
    refine eV (eCall2 rfl rfl rfl (poly_DivMod g hg A8 _ 1 [1] rfl (by simp) B1 _ c1 (il (pol ml : Po (El p m mod))) rfl (by omega) (by rw [pol_il]; exact hm0)) ⟨rfl, rfl, rfl, trivial⟩ ?_)
    rintro _ _ _ ⟨Q8a, q8a, B8a, c8a, rfl, rfl, rfl⟩
    iterate 7 refine pV ?_
    rw [pol_il]
    refine tS ?_
    refine tR fun _ _ _ => ?_
    iterate 3 refine pV ?_
    refine eV (eCall2 rfl rfl rfl (poly_DivMod g hg A n c a hn (by omega) B1 _ c1 (il (pol ml : Po (El p m mod))) rfl (by omega) (by rw [pol_il]; exact hm0)) ⟨rfl, rfl, rfl, trivial⟩ ?_)
    rintro _ _ _ ⟨Q9, q9, B9, c9, rfl, rfl, rfl⟩
    iterate 7 refine pV ?_
    rw [pol_il]
    refine tS ?_
    refine tB ?_
    refine tr_loop7 (fun (t : Int) (Bx : Option Addr) (cx : Nat) (f : Po (El p m mod)) (By : Option Addr) (cy : Nat) (b : Po (El p m mod)) => [(2, .int .i64 t), (11, .slice Bx (il f).length cx), (14, .slice By (il b).length cy), (0, .pointer (some g.p)), (3, .slice B1 (il (pol ml : Po (El p m mod))).length c1), (8, .slice none 0 0), (9, .int .i64 0)]) (fun (t : Int) (Bx : Option Addr) (cx : Nat) (f : Po (El p m mod)) (By : Option Addr) (cy : Nat) (b : Po (El p m mod)) => [ow Bx 3 cx (ints (il f)), ow By 3 cy (ints (il b)), ow B1 3 c1 (ints (il (pol ml : Po (El p m mod)))), gfR g]) (fun (t : Int) (Bx : Option Addr) (cx : Nat) (f : Po (El p m mod)) (By : Option Addr) (cy : Nat) (b : Po (El p m mod)) => (0 ≤ t ∧ t ≤ k) ∧ Po.len f < Po.len (pol ml : Po (El p m mod)) ∧ Po.len b < Po.len (pol ml : Po (El p m mod)) ∧ (pol ml : Po (El p m mod)) ∣ f * Rg.pow b t.toNat - Rg.pow (pol a : Po (El p m mod)) k.toNat) (fun (t : Int) (Bx : Option Addr) (cx : Nat) (f : Po (El p m mod)) (By : Option Addr) (cy : Nat) (b : Po (El p m mod)) => t.toNat) (k) (B8a) (c8a) ((Po.rem (pol [1]) (pol ml : Po (El p m mod)))) (B9) (c9) ((Po.rem (pol a : Po (El p m mod)) (pol ml : Po (El p m mod)))) ⟨rfl, rfl, rfl, rfl, rfl, rfl, rfl, trivial⟩ (by first | exact cs _ _ | exact CSub.refl _) (⟨⟨by omega, by omega⟩, Po.rem_len _ hm0, Po.rem_len _ hm0, by rw [pol_one1]; exact rem_pow_start hm0 _⟩) (fun t Bx cx f By cy b hI => ?_)
    obtain ⟨⟨ht0, ht9⟩, hfl, hbl, hd⟩ := hI
    refine tS ?_
    refine tS ?_
    refine tR fun _ _ _ => ?_
    iterate 2 refine pV ?_
    refine tC rfl (fun h10 => ?_) (fun h10 => ?_)
    ·try simp only [zbA] at h10
     refine tK ?_
     refine tS ?_
     refine tB ?_
     refine tS ?_
     refine tS ?_
     have hilf := il_length f
     have hilb := il_length b
     refine tR fun _ _ _ => ?_
     refine pV ?_
     refine sV (rRem rfl rfl rfl (by omega) (by omega)) ?_
     refine pV ?_
     refine tC rfl (fun h12 => ?_) (fun h12 => ?_)
     ·try simp only [zbA] at h12
      refine tR fun _ _ _ => ?_
      iterate 4 refine pV ?_
      refine eV (eCall1 rfl rfl rfl (poly_product g hg Bx _ cx (il f) rfl (by omega) By _ cy (il b) rfl (by omega)) ⟨rfl, rfl, rfl, trivial⟩ ?_)
      rintro _ _ ⟨B13, c13, rfl, rfl⟩
      refine pV ?_
      have hl13 := il_length (pol (il (f : Po (El p m mod))) * pol (il b) : Po (El p m mod))
      have hl13b := len_mul_le (pol (il (f : Po (El p m mod)))) (pol (il b) : Po (El p m mod))
      have e13 : Po.len (pol (il (f : Po (El p m mod))) : Po (El p m mod)) = (il f).length := by rw [pol_il, il_length]
      have e14 : Po.len (pol (il b) : Po (El p m mod)) = (il b).length := by rw [pol_il, il_length]
      refine eV (eCall2 rfl rfl rfl (poly_DivMod g hg B13 _ c13 (il (pol (il f) * pol (il b))) rfl (by omega) B1 _ c1 (il (pol ml : Po (El p m mod))) rfl (by omega) (by rw [pol_il]; exact hm0)) ⟨rfl, rfl, rfl, trivial⟩ ?_)
      rintro _ _ _ ⟨Q13a, q13a, B13a, c13a, rfl, rfl, rfl⟩
      iterate 5 refine pV ?_
      rw [pol_il, pol_il, pol_il, pol_il]
      refine tR fun _ _ _ => ?_
      iterate 4 refine pV ?_
      refine eV (eCall1 rfl rfl rfl (poly_product g hg By _ cy (il b) rfl (by omega) By _ cy (il b) rfl (by omega)) ⟨rfl, rfl, rfl, trivial⟩ ?_)
      rintro _ _ ⟨B14, c14, rfl, rfl⟩
      refine pV ?_
      have hl14 := il_length (pol (il b) * pol (il b) : Po (El p m mod))
      have hl14b := len_mul_le (pol (il b)) (pol (il b) : Po (El p m mod))
      have e15 : Po.len (pol (il b) : Po (El p m mod)) = (il b).length := by rw [pol_il, il_length]
      refine eV (eCall2 rfl rfl rfl (poly_DivMod g hg B14 _ c14 (il (pol (il b) * pol (il b))) rfl (by omega) B1 _ c1 (il (pol ml : Po (El p m mod))) rfl (by omega) (by rw [pol_il]; exact hm0)) ⟨rfl, rfl, rfl, trivial⟩ ?_)
      rintro _ _ _ ⟨Q14a, q14a, B14a, c14a, rfl, rfl, rfl⟩
      iterate 5 refine pV ?_
      rw [pol_il, pol_il, pol_il]
      refine tR fun _ _ _ => ?_
      refine pV ?_
      refine sV (rQuo rfl rfl rfl (by omega) (by omega)) ?_
      refine pV ?_
      refine ⟨t / 2, B13a, c13a, (Po.rem (f * b) (pol ml : Po (El p m mod))), B14a, c14a, (Po.rem (b * b) (pol ml : Po (El p m mod))), ⟨rfl, rfl, rfl, rfl, rfl, rfl, rfl, trivial⟩, by first | exact cs _ _ | exact CSub.refl _, ?_⟩
      exact ⟨⟨⟨by omega, by omega⟩, Po.rem_len _ hm0, Po.rem_len _ hm0, by rw [show (t / 2).toNat = t.toNat / 2 by omega]; exact (rem_pow_step hm0 hd).1 (by omega)⟩, by omega⟩
     ·try simp only [zbA] at h12
      refine tK ?_
      refine tR fun _ _ _ => ?_
      iterate 4 refine pV ?_
      refine eV (eCall1 rfl rfl rfl (poly_product g hg By _ cy (il b) rfl (by omega) By _ cy (il b) rfl (by omega)) ⟨rfl, rfl, rfl, trivial⟩ ?_)
      rintro _ _ ⟨B14, c14, rfl, rfl⟩
      refine pV ?_
      have hl14 := il_length (pol (il b) * pol (il b) : Po (El p m mod))
      have hl14b := len_mul_le (pol (il b)) (pol (il b) : Po (El p m mod))
      have e15 : Po.len (pol (il b) : Po (El p m mod)) = (il b).length := by rw [pol_il, il_length]
      refine eV (eCall2 rfl rfl rfl (poly_DivMod g hg B14 _ c14 (il (pol (il b) * pol (il b))) rfl (by omega) B1 _ c1 (il (pol ml : Po (El p m mod))) rfl (by omega) (by rw [pol_il]; exact hm0)) ⟨rfl, rfl, rfl, trivial⟩ ?_)
      rintro _ _ _ ⟨Q14a, q14a, B14a, c14a, rfl, rfl, rfl⟩
      iterate 5 refine pV ?_
      rw [pol_il, pol_il, pol_il]
      refine tR fun _ _ _ => ?_
      refine pV ?_
      refine sV (rQuo rfl rfl rfl (by omega) (by omega)) ?_
      refine pV ?_
      refine ⟨t / 2, Bx, cx, f, B14a, c14a, (Po.rem (b * b) (pol ml : Po (El p m mod))), ⟨rfl, rfl, rfl, rfl, rfl, rfl, rfl, trivial⟩, by first | exact cs _ _ | exact CSub.refl _, ?_⟩
      exact ⟨⟨⟨by omega, by omega⟩, hfl, Po.rem_len _ hm0, by rw [show (t / 2).toNat = t.toNat / 2 by omega]; exact (rem_pow_step hm0 hd).2 (by omega)⟩, by omega⟩
    ·try simp only [zbA] at h10
     refine tE ?_
     refine tS ?_
     refine tR fun _ _ _ => ?_
     iterate 3 refine pV ?_
     have htz : t.toNat = 0 := by omega
     rw [htz] at hd
     have hfe := rem_uniq hm0 hfl (show (pol ml : Po (El p m mod)) ∣ f - Rg.pow (pol a : Po (El p m mod)) k.toNat by
      have e : f * Rg.pow b 0 = f := by show f * 1 = f; grind
      rw [e] at hd; exact hd)
     subst hfe
     exact tr_ret ⟨trivial, _, _, rfl, ⟨_, rfl, Bx, cx, rfl, rfl⟩, cs _ _, trivial, trivial⟩
theorem fac_frobenius_ent : Enters Try.prog 32 := enters_of Try.func32 (by kernel_rfl) (by kernel_rfl)
theorem fac_frobenius (g : GfM) {p m : Int} {mod : List Int} [hF : IsF p m mod] (hg : GOk g p m mod) (A : Option Addr) (n c : Nat) (a : List Int) (hn : n = a.length) (ha9 : a.length ≤ 1000000) (C : Option Addr) (nc d2 : Nat) (ml : List Int) (hnc : nc = ml.length) (hm9 : ml.length ≤ 1000000) (he : facE (Po.len (pol ml : Po (El p m mod))) = 0) :
  Pure Try.prog 32 #[.pointer (some g.p), .slice A n c, .slice C nc d2] [gfR g, ro A (ints a), ro C (ints ml)] (one (fun v ch => ∃ B cap, v = .slice B (il (Po.rem (Rg.pow (pol a : Po (El p m mod)) (pw p m).toNat) (pol ml : Po (El p m mod)))).length cap ∧ ch = ow B 3 cap (ints (il (Po.rem (Rg.pow (pol a : Po (El p m mod)) (pw p m).toNat) (pol ml : Po (El p m mod))))))) := by
 have hgq := hg.eq
 have hq2 := hF.q2
 have hq256 := hF.out.1.1.q
 refine pure_of (args := [.pointer (some g.p), .slice A n c, .slice C nc d2]) 19 Try.func32 rfl rfl rfl fac_frobenius_ent ⟨id, id, id, trivial⟩ (fun w0 => ?_)
 refine tS ?_
 refine tR fun _ _ _ => ?_
 refine pV ?_
 refine tS ?_
 refine tR fun _ _ _ => ?_
 iterate 3 refine pV ?_
 refine eV (eCallV rfl rfl rfl (gf_Order g) ⟨rfl, trivial⟩ ?_)
 refine pV ?_
 rw [hgq]
 refine eV (eCall1 rfl rfl rfl (poly_PowMod g hg A n c a hn ha9 (pw p m) (by omega) (by omega) C nc d2 ml hnc hm9 he) ⟨rfl, rfl, rfl, rfl, trivial⟩ ?_)
 rintro _ _ ⟨B1, c1, rfl, rfl⟩
 iterate 5 refine pV ?_
 refine tS ?_
 refine tR fun _ _ _ => ?_
 iterate 2 refine pV ?_
 exact tr_ret ⟨trivial, _, _, rfl, ⟨_, rfl, B1, c1, rfl, rfl⟩, cs _ _, trivial, trivial⟩
end Go.Proofs.Ytdkahdehodopoaa

set_option maxRecDepth 100000
namespace Go.Proofs.Ytdkahdehodopoaa
open Go.RowKit
theorem pws_get1 (ps : List (Int × Int)) (j : Nat) (h : j < ps.length) : ((pws ps).getD j prD).1 = .int .i64 (ps.getD j (0, 0)).1 := by rw [pws_get ps j h]
theorem pws_get2 (ps : List (Int × Int)) (j : Nat) (h : j < ps.length) : ((pws ps).getD j prD).2 = .int .i64 (ps.getD j (0, 0)).2 := by rw [pws_get ps j h]
section
variable {p m : Int} {mod : List Int} [hF : IsF p m mod]
theorem pol_X01 : (pol [0, 1] : Po (El p m mod)) = Po.X := Po.ext fun j => by
 rw [cf_pol, show (Po.X : Po (El p m mod)) = Po.mn 1 1 from rfl, Po.cf_mn]
 match j with
 | 0 => rw [List.getD_cons_zero, if_neg (by omega), el_zero]
 | 1 => rw [List.getD_cons_succ, List.getD_cons_zero, if_pos rfl]; exact el_one
 | j + 2 => rw [List.getD_cons_succ, List.getD_cons_succ, List.getD_nil, if_neg (by omega), el_zero]
noncomputable def irB (P : Po (El p m mod)) : Bool := @decide (Po.Ir P) (Classical.propDecidable _)
theorem irB_iff {P : Po (El p m mod)} : irB P = true ↔ Po.Ir P := by unfold irB; exact @decide_eq_true_iff _ (Classical.propDecidable _)
theorem irB_no {P : Po (El p m mod)} (h : ¬ Po.Ir P) : irB P = false := Bool.eq_false_iff.2 fun e => h (irB_iff.1 e)
theorem xq_rem {P : Po (El p m mod)} (hP : P ≠ 0) (i : Nat) : P ∣ (Po.rem (Rg.pow Po.X ((pw p m).toNat ^ i)) P - Po.X) - xq p m mod i := by
 obtain ⟨a, ha⟩ := Po.rem_sub_dvd (Rg.pow (Po.X : Po (El p m mod)) ((pw p m).toNat ^ i)) hP
 unfold xq
 generalize Rg.pow (Po.X : Po (El p m mod)) ((pw p m).toNat ^ i) = W at *
 generalize Po.rem W P = r at *
 exact ⟨-a, by grind⟩
theorem rem_next {P : Po (El p m mod)} (hP : P ≠ 0) (i : Nat) : Po.rem (Rg.pow (Po.rem (Rg.pow Po.X ((pw p m).toNat ^ i)) P) (pw p m).toNat) P = Po.rem (Rg.pow Po.X ((pw p m).toNat ^ (i + 1))) P := (Po.rem_eq_iff hP).2 (by
 have h := fpow_congr (Po.rem_sub_dvd (Rg.pow (Po.X : Po (El p m mod)) ((pw p m).toNat ^ i)) hP) (pw p m).toNat
 rw [← Rg.pow_mul, ← Nat.pow_succ] at h
 obtain ⟨a, ha⟩ := h
 generalize Rg.pow (Po.rem (Rg.pow Po.X ((pw p m).toNat ^ i)) P) (pw p m).toNat = x at *
 generalize Rg.pow (Po.X : Po (El p m mod)) ((pw p m).toNat ^ (i + 1)) = y at *
 exact ⟨-a, by grind⟩)
theorem prL_at {N : Nat} {ps : List (Int × Int)} (h : PrL N ps) {j : Nat} (hj : j < ps.length) : 2 ≤ (ps.getD j (0, 0)).1 ∧ (∀ u, 2 ≤ u → u ∣ (ps.getD j (0, 0)).1.toNat → u = (ps.getD j (0, 0)).1.toNat) ∧ (ps.getD j (0, 0)).1.toNat ∣ N := by
 have h1 := h.1 _ (getD_mem hj (0, 0))
 have h2 := (h.2 (ps.getD j (0, 0)).1.toNat).1 ⟨_, getD_mem hj (0, 0), by omega⟩
 exact ⟨h1, h2.2⟩
theorem irr_no {P : Po (El p m mod)} {N : Nat} (hN : Po.len P = N + 1) (h1 : 1 ≤ N) {ps : List (Int × Int)} (hps : PrL N ps) {j : Nat} (hj : j < ps.length) (hg : ¬ Po.gcd P (xq p m mod ((N : Int) / (ps.getD j (0, 0)).1).toNat) = 1) : irB P = false := irB_no fun hi => hg (by
 have h2 := prL_at hps hj
 have h3 := ((rabin hN h1).1 hi).2 _ (by omega) h2.2.1 h2.2.2
 rw [show ((N : Int) / (ps.getD j (0, 0)).1).toNat = N / (ps.getD j (0, 0)).1.toNat by
  obtain ⟨r, hr⟩ : ∃ r : Nat, (ps.getD j (0, 0)).1 = (r : Int) := ⟨(ps.getD j (0, 0)).1.toNat, by omega⟩
  rw [hr, ← Int.natCast_ediv]; rfl]
 exact h3)
theorem irr_yes {P : Po (El p m mod)} {N : Nat} (hN : Po.len P = N + 1) (h1 : 1 ≤ N) {ps : List (Int × Int)} (hps : PrL N ps) (hall : ∀ z : Nat, z < ps.length → Po.gcd P (xq p m mod ((N : Int) / (ps.getD z (0, 0)).1).toNat) = 1) :
  decide (il (Po.rem (Rg.pow Po.X ((pw p m).toNat ^ N)) P) = il (Po.rem Po.X P)) = irB P := by
 have hP : P ≠ 0 := Po.len_pos_iff.1 (by omega)
 have h2 : (il (Po.rem (Rg.pow Po.X ((pw p m).toNat ^ N)) P) = il (Po.rem Po.X P)) ↔ P ∣ xq p m mod N := by
  constructor
  ·intro h
   have := congrArg (pol (p := p) (m := m) (mod := mod)) h
   rw [pol_il, pol_il] at this
   exact (Po.rem_eq_iff hP).1 this
  ·intro h; rw [(Po.rem_eq_iff hP).2 h]
 have h3 : Po.Ir P ↔ P ∣ xq p m mod N := by
  rw [rabin hN h1]
  refine ⟨fun h => h.1, fun h => ⟨h, fun r r2 rp rd => ?_⟩⟩
  obtain ⟨q, hq, hqr⟩ := (hps.2 r).2 ⟨r2, rp, rd⟩
  obtain ⟨z, hz, rfl⟩ := List.getElem_of_mem hq
  have h4 := hall z hz
  rw [List.getD_eq_getElem?_getD, List.getElem?_eq_getElem hz] at h4
  simp only [Option.getD_some] at h4
  rw [hqr, ← Int.natCast_ediv] at h4
  exact h4
 rw [Bool.eq_iff_iff, decide_eq_true_iff, irB_iff, h2, h3]
theorem gcd_sub_xq {P : Po (El p m mod)} (hP : P ≠ 0) (i : Nat) : Po.gcd P (Po.rem (Rg.pow Po.X ((pw p m).toNat ^ i)) P - Po.X) = Po.gcd P (xq p m mod i) := gcd_congr hP (xq_rem hP i)
theorem gcd_len {P f : Po (El p m mod)} (hP : P ≠ 0) : Po.len (Po.gcd P f) ≤ Po.len P := Po.dvd_len (Po.gcd_is P f).left hP
end
theorem nq_pos {N : Nat} {ps : List (Int × Int)} (h : PrL N ps) (h1 : 1 ≤ N) {z : Nat} (hz : z < ps.length) : 1 ≤ (N : Int) / (ps.getD z (0, 0)).1 := by
 have h2 := h.1 _ (getD_mem hz (0, 0))
 have h3 := (h.2 (ps.getD z (0, 0)).1.toNat).1 ⟨_, getD_mem hz (0, 0), by omega⟩
 have h4 := Nat.le_of_dvd (by omega) h3.2.2
 exact Int.le_ediv_of_mul_le (by omega) (by omega)
theorem nq_le {N : Nat} {ps : List (Int × Int)} (h : PrL N ps) (h1 : 1 ≤ N) {z : Nat} (hz : z < ps.length) : (N : Int) / (ps.getD z (0, 0)).1 ≤ N := Int.ediv_le_self _ (by omega)
theorem fac_Irr_ent : Enters Try.prog 12 := enters_of Try.func12 (by kernel_rfl) (by kernel_rfl)
theorem fac_Irr (g : GfM) {p m : Int} {mod : List Int} [hF : IsF p m mod] (hg : GOk g p m mod) (A : Option Addr) (n c : Nat) (a : List Int) (hn : n = a.length) (ha9 : a.length ≤ 17592186044415) (he : facE (Po.len (pol a : Po (El p m mod))) = 0) (N : Nat) (hN : Po.len (pol a : Po (El p m mod)) = N + 1) (h1 : 1 ≤ N) (ps : List (Int × Int)) (hpl : ps.length ≤ 1000) (hps : PrL N ps) (hfac : Pure Try.prog 30 #[.int .i64 N] [] (one (fun v ch => ∃ B c, v = .tuple #[.slice B ps.length c, .int .i64 0] ∧ ch = ow2 B 74 c (pws ps)))) :
  Pure Try.prog 12 #[.pointer (some g.p), .slice A n c] [gfR g, ro A (ints a)] (isV (.tuple #[.bool (irB (pol a : Po (El p m mod))), .int .i64 0])) := by
 have h1N := h1
 have hil := il_length (pol a : Po (El p m mod))
 have hle := facE_ok he
 have hm0 := ne_of_len hle.1
 have hil0 := il_length (Po.rem Po.X (pol a : Po (El p m mod)))
 have hlr0 := Po.rem_len (Po.X : Po (El p m mod)) hm0
 refine pure_of (args := [.pointer (some g.p), .slice A n c]) 85 Try.func12 rfl rfl rfl fac_Irr_ent ⟨id, id, trivial⟩ (fun w0 => ?_)
 refine tS ?_
 refine tR fun _ _ _ => ?_
 iterate 2 refine pV ?_
 refine tS ?_
 refine tR fun _ _ _ => ?_
 iterate 2 refine pV ?_
 refine eV (eCall1 rfl rfl rfl (fac_enter g hg A n c a hn ha9 he) ⟨rfl, rfl, trivial⟩ ?_)
 rintro _ _ ⟨B1, c1, rfl, hc1, rfl⟩
 iterate 5 refine pV ?_
 refine tS ?_
 refine tS ?_
 refine tR fun _ _ _ => ?_
 iterate 2 refine pV ?_
 refine tC rfl (fun h2 => ?_) (fun h2 => ?_)
 ·try simp only [zbA] at h2
  first | exact absurd trivial h2 | exact absurd rfl h2 | omega | (exact absurd h2 (by simp)) --done
 ·try simp only [zbA] at h2
  refine tK ?_
  refine tS ?_
  refine tR fun _ _ _ => ?_
  refine pV ?_
  refine sV (rLen rfl rfl) ?_
  refine sV (rSub rfl rfl rfl (by omega) (by omega)) ?_
  refine pV ?_
  rw [show ((il (pol a : Po (El p m mod))).length : Int) - 1 = (N : Int) by omega]
  refine tS ?_
  refine tS ?_
  refine tR fun _ _ _ => ?_
  iterate 2 refine pV ?_
  refine tC rfl (fun h5 => ?_) (fun h5 => ?_)
  ·try simp only [zbA] at h5
   omega --done
  ·try simp only [zbA] at h5
   refine tK ?_
   refine tS ?_
   refine tR fun _ _ _ => ?_
   refine pV ?_
   refine eV (eCall1 rfl rfl rfl (hfac) ⟨rfl, trivial⟩ ?_)
   rintro _ _ ⟨B7, c7, rfl, rfl⟩
   iterate 5 refine pV ?_
   refine tS ?_
   refine tR fun _ _ _ => ?_
   refine eV (eLit2I rfl rfl rfl rfl rfl (fun A8 => ?_))
   refine pV ?_
   refine tS ?_
   refine tR fun _ _ _ => ?_
   iterate 3 refine pV ?_
   refine eV (eCall2 rfl rfl rfl (poly_DivMod g hg A8 _ 2 [0, 1] rfl (by simp) B1 _ c1 (il (pol a : Po (El p m mod))) rfl (by omega) (by rw [pol_il]; exact hm0)) ⟨rfl, rfl, rfl, trivial⟩ ?_)
   rintro _ _ _ ⟨Q9, q9, B9, c9, rfl, rfl, rfl⟩
   iterate 7 refine pV ?_
   rw [pol_il, pol_X01]
   refine tS ?_
   refine tR fun _ _ _ => ?_
   iterate 2 refine pV ?_
   refine tS ?_
   refine tS ?_
   refine tr_chunks [ro B9 (ints (il (Po.rem Po.X (pol a : Po (El p m mod))))), ro B9 (ints (il (Po.rem Po.X (pol a : Po (El p m mod))))), ow A8 3 2 (ints [0, 1]), ow2 B7 74 c7 (pws ps), ow B1 3 c1 (ints (il (pol a : Po (El p m mod)))), gfR g] ((cs _ [ow B9 3 c9 (ints (il (Po.rem Po.X (pol a : Po (El p m mod))))), ow A8 3 2 (ints [0, 1]), ow2 B7 74 c7 (pws ps), ow B1 3 c1 (ints (il (pol a : Po (El p m mod)))), gfR g]).trans ((ow_ro _).trans (ro_dup _))) ?_
   refine tR fun _ _ _ => ?_
   refine pV ?_
   refine tB ?_
   refine tr_loop4 (fun (i : Int) (Bh : Option Addr) (ch : Nat) (f : Po (El p m mod)) => [(13, .slice Bh (il f).length ch), (15, .slice B9 (il (Po.rem Po.X (pol a : Po (El p m mod)))).length c9), (16, .int .i64 i), (8, .int .i64 N), (11, .slice A8 2 2), (0, .pointer (some g.p)), (6, .slice B1 (il (pol a : Po (El p m mod))).length c1), (9, .slice B7 ps.length c7)]) (fun (i : Int) (Bh : Option Addr) (ch : Nat) (f : Po (El p m mod)) => [ro Bh (ints (il f)), ro B9 (ints (il (Po.rem Po.X (pol a : Po (El p m mod))))), ow A8 3 2 (ints [0, 1]), ow2 B7 74 c7 (pws ps), ow B1 3 c1 (ints (il (pol a : Po (El p m mod)))), gfR g]) (fun (i : Int) (Bh : Option Addr) (ch : Nat) (f : Po (El p m mod)) => (1 ≤ i ∧ i ≤ N + 1) ∧ f = (Po.rem (Rg.pow Po.X ((pw p m).toNat ^ (i - 1).toNat)) (pol a : Po (El p m mod))) ∧ ∀ z : Nat, z < ps.length → ((N : Int) / (ps.getD z (0, 0)).1) < i → Po.gcd (pol a : Po (El p m mod)) (xq p m mod ((N : Int) / (ps.getD z (0, 0)).1).toNat) = 1) (fun (i : Int) (Bh : Option Addr) (ch : Nat) (f : Po (El p m mod)) => (N + 1 - i).toNat) (1) (B9) (c9) ((Po.rem Po.X (pol a : Po (El p m mod)))) ⟨rfl, rfl, rfl, rfl, rfl, rfl, rfl, rfl, trivial⟩ (by first | exact cs _ _ | exact CSub.refl _) (⟨⟨by omega, by omega⟩, by rw [show ((1 : Int) - 1).toNat = 0 from rfl, Nat.pow_zero, show Rg.pow (Po.X : Po (El p m mod)) 1 = Po.X from Rg.one_mul _], fun z hz hlt => absurd hlt (by have := nq_pos hps h1N hz; omega)⟩) (fun i Bh ch f hI => ?_)
   obtain ⟨⟨hi0, hi1⟩, rfl, hall⟩ := hI
   refine tS ?_
   refine tS ?_
   refine tR fun _ _ _ => ?_
   iterate 3 refine pV ?_
   refine tC rfl (fun h12 => ?_) (fun h12 => ?_)
   ·try simp only [zbA] at h12
    refine tK ?_
    refine tS ?_
    refine tB ?_
    refine tS ?_
    have hilh := il_length (Po.rem (Rg.pow Po.X ((pw p m).toNat ^ (i - 1).toNat)) (pol a : Po (El p m mod)))
    have hlrh := Po.rem_len (Rg.pow Po.X ((pw p m).toNat ^ (i - 1).toNat)) hm0
    have hiln := il_length (Po.rem (Rg.pow Po.X ((pw p m).toNat ^ i.toNat)) (pol a : Po (El p m mod)))
    have hlrn := Po.rem_len (Rg.pow Po.X ((pw p m).toNat ^ i.toNat)) hm0
    refine tR fun _ _ _ => ?_
    iterate 3 refine pV ?_
    refine eV (eCall1 rfl rfl rfl (fac_frobenius g hg Bh _ ch (il (Po.rem (Rg.pow Po.X ((pw p m).toNat ^ (i - 1).toNat)) (pol a : Po (El p m mod)))) rfl (by omega) B1 _ c1 (il (pol a : Po (El p m mod))) rfl (by omega) (by rw [pol_il]; exact he)) ⟨rfl, rfl, rfl, trivial⟩ ?_)
    rintro _ _ ⟨B14, c14, rfl, rfl⟩
    refine pV ?_
    rw [pol_il, pol_il, rem_next hm0, show (i - 1).toNat + 1 = i.toNat by omega]
    refine tS ?_
    refine tR fun _ _ _ => ?_
    refine pV ?_
    refine sV (rLenS rfl rfl) ?_
    refine pV ?_
    refine tB ?_
    refine tr_loop1 (fun (j : Int) => [(59, .int .i64 j), (57, .slice B7 ps.length c7), (58, .int .i64 ps.length), (0, .pointer (some g.p)), (6, .slice B1 (il (pol a : Po (El p m mod))).length c1), (8, .int .i64 N), (9, .slice B7 ps.length c7), (11, .slice A8 2 2), (13, .slice B14 (il (Po.rem (Rg.pow Po.X ((pw p m).toNat ^ i.toNat)) (pol a : Po (El p m mod)))).length c14), (15, .slice B9 (il (Po.rem Po.X (pol a : Po (El p m mod)))).length c9), (16, .int .i64 i), (48, .int .i64 i), (49, .int .i64 N), (56, .slice B14 (il (Po.rem (Rg.pow Po.X ((pw p m).toNat ^ i.toNat)) (pol a : Po (El p m mod)))).length c14)]) (fun (j : Int) => [ow B14 3 c14 (ints (il (Po.rem (Rg.pow Po.X ((pw p m).toNat ^ i.toNat)) (pol a : Po (El p m mod))))), ro B9 (ints (il (Po.rem Po.X (pol a : Po (El p m mod))))), ow A8 3 2 (ints [0, 1]), ow2 B7 74 c7 (pws ps), ow B1 3 c1 (ints (il (pol a : Po (El p m mod)))), gfR g]) (fun (j : Int) => (0 ≤ j ∧ j ≤ ps.length) ∧ ∀ z : Nat, (z : Int) < j → ((N : Int) / (ps.getD z (0, 0)).1) = i → Po.gcd (pol a : Po (El p m mod)) (xq p m mod i.toNat) = 1) (fun (j : Int) => (ps.length - j).toNat) (0) ⟨rfl, rfl, rfl, rfl, rfl, rfl, rfl, rfl, rfl, rfl, rfl, rfl, rfl, rfl, trivial⟩ (by first | exact cs _ _ | exact CSub.refl _) (⟨⟨by omega, by omega⟩, fun z hz => by omega⟩) (fun j hI => ?_)
    obtain ⟨⟨hj0, hj1⟩, hj⟩ := hI
    refine tS ?_
    refine tR fun _ _ _ => ?_
    refine pV ?_
    refine tS ?_
    refine tC rfl (fun h16 => ?_) (fun h16 => ?_)
    ·try simp only [zbA] at h16
     refine tK ?_
     refine tS ?_
     refine tB ?_
     refine tS ?_
     have hjl : j.toNat < ps.length := by omega
     have hat := prL_at hps hjl
     refine tR fun _ _ _ => ?_
     refine sV (rIdxT rfl rfl rfl (by omega) (by omega) (by simp; omega)) ?_
     refine sV (rLdT rfl rfl (by simp; omega)) ?_
     refine eV (eAlloc rfl rfl rfl (fun p17 => ?_))
     rw [pws_get1 ps j.toNat hjl, pws_get2 ps j.toNat hjl]
     refine eV (eStS rfl rfl rfl rfl rfl rfl ?_)
     refine tS ?_
     by_cases hs : ((N : Int) / (ps.getD j.toNat (0, 0)).1) = i
     ·refine tR fun _ _ _ => ?_
      refine pV ?_
      refine sV (rFld rfl rfl) ?_
      refine sV (rLdF rfl rfl rfl) ?_
      refine sV (rQuo rfl rfl rfl (by omega) (by omega)) ?_
      iterate 3 refine pV ?_
      refine stT rfl rfl rfl (by first | exact decide_eq_true hs | (rw [decide_eq_true hs]; rfl)) rfl rfl (rMove rfl rfl) ?_
      refine stT rfl rfl rfl (by first | exact decide_eq_true hs | (rw [decide_eq_true hs]; rfl)) rfl rfl (rMove rfl rfl) ?_
      refine stT rfl rfl rfl (by first | exact decide_eq_true hs | (rw [decide_eq_true hs]; rfl)) rfl rfl (rMove rfl rfl) ?_
      refine stT rfl rfl rfl (by first | exact decide_eq_true hs | (rw [decide_eq_true hs]; rfl)) rfl rfl (rMove rfl rfl) ?_
      refine stT rfl rfl rfl (by first | exact decide_eq_true hs | (rw [decide_eq_true hs]; rfl)) rfl rfl (rMove rfl rfl) ?_
      refine stT rfl rfl rfl (by first | exact decide_eq_true hs | (rw [decide_eq_true hs]; rfl)) rfl rfl (rMove rfl rfl) ?_
      refine efT rfl rfl rfl (by first | exact decide_eq_true hs | (rw [decide_eq_true hs]; rfl)) (eCall1 rfl rfl rfl (poly_Sub g hg B14 _ c14 (il (Po.rem (Rg.pow Po.X ((pw p m).toNat ^ i.toNat)) (pol a : Po (El p m mod)))) rfl (by omega) A8 _ 2 [0, 1] rfl (by simp)) ⟨rfl, rfl, rfl, trivial⟩ ?_)
      rintro _ _ ⟨B18, c18, rfl, rfl⟩
      have hs1 := il_length (pol (il (Po.rem (Rg.pow Po.X ((pw p m).toNat ^ i.toNat)) (pol a : Po (El p m mod)))) - pol [0, 1] : Po (El p m mod))
      have hs2 := Po.len_sub (pol (il (Po.rem (Rg.pow Po.X ((pw p m).toNat ^ i.toNat)) (pol a : Po (El p m mod))))) (pol [0, 1] : Po (El p m mod))
      have hs3 : Po.len (pol (il (Po.rem (Rg.pow Po.X ((pw p m).toNat ^ i.toNat)) (pol a : Po (El p m mod)))) : Po (El p m mod)) = Po.len (Po.rem (Rg.pow Po.X ((pw p m).toNat ^ i.toNat)) (pol a : Po (El p m mod))) := by rw [pol_il]
      have hs4 : Po.len (pol [0, 1] : Po (El p m mod)) ≤ 2 := Po.len_le (pol_sh [0, 1])
      refine efT rfl rfl rfl (by first | exact decide_eq_true hs | (rw [decide_eq_true hs]; rfl)) (eCall1 rfl rfl rfl (poly_Gcd g hg B1 _ c1 (il (pol a : Po (El p m mod))) rfl (by omega) B18 _ c18 (il (pol (il (Po.rem (Rg.pow Po.X ((pw p m).toNat ^ i.toNat)) (pol a : Po (El p m mod)))) - pol [0, 1])) rfl (by omega) (.inl (by rw [pol_il]; exact hm0))) ⟨rfl, rfl, rfl, trivial⟩ ?_)
      rintro _ _ ⟨B18a, c18a, rfl, rfl⟩
      have hs5 := il_length (Po.gcd (pol (il (pol a : Po (El p m mod)))) (pol (il (pol (il (Po.rem (Rg.pow Po.X ((pw p m).toNat ^ i.toNat)) (pol a : Po (El p m mod)))) - pol [0, 1] : Po (El p m mod)))) : Po (El p m mod))
      have hs6 := gcd_len (p := p) (m := m) (mod := mod) (f := pol (il (pol (il (Po.rem (Rg.pow Po.X ((pw p m).toNat ^ i.toNat)) (pol a : Po (El p m mod)))) - pol [0, 1] : Po (El p m mod)))) (show (pol (il (pol a : Po (El p m mod))) : Po (El p m mod)) ≠ 0 by rw [pol_il]; exact hm0)
      have hs7 : Po.len (pol (il (pol a : Po (El p m mod))) : Po (El p m mod)) = Po.len (pol a : Po (El p m mod)) := by rw [pol_il]
      refine efT rfl rfl rfl (by first | exact decide_eq_true hs | (rw [decide_eq_true hs]; rfl)) (eCallV rfl rfl rfl (poly_Degree g hg B18a _ c18a (il (Po.gcd (pol (il (pol a : Po (El p m mod)))) (pol (il (pol (il (Po.rem (Rg.pow Po.X ((pw p m).toNat ^ i.toNat)) (pol a : Po (El p m mod)))) - pol [0, 1] : Po (El p m mod)))) : Po (El p m mod))) rfl (by omega)) ⟨rfl, rfl, trivial⟩ ?_)
      refine stT rfl rfl rfl (by first | exact decide_eq_true hs | (rw [decide_eq_true hs]; rfl)) rfl rfl (rGtr rfl rfl rfl) ?_
      refine sV (rPick1 rfl rfl (by first | exact decide_eq_true hs | (rw [decide_eq_true hs]; rfl)) rfl) ?_
      refine tC rfl (fun h18 => ?_) (fun h18 => ?_)
      ·try simp only [zbA] at h18
       refine tS ?_
       refine tR fun _ _ _ => ?_
       iterate 2 refine pV ?_
       rcases Classical.em (((N : Int) / (ps.getD j.toNat (0, 0)).1) = i) with hs3 | hs3
       ·first
         | exact absurd hs3 hs
         | (have hno : irB (pol a : Po (El p m mod)) = false := irr_no hN h1N hps hjl (by rw [hs3]; intro h1; rw [pol_il, pol_il, pol_il, pol_il, pol_X01, gcd_sub_xq hm0, h1, Po.len_one] at h18; omega); exact tr_ret ⟨trivial, _, _, rfl, ⟨by rw [hno], rfl⟩, CSub.nil _, trivial⟩)
       ·exfalso; first | exact hs3 hs | (simp at h18; done) | exact absurd h18 (by simp)
      ·try simp only [zbA] at h18
       refine tK ?_
       refine tR fun _ _ _ => ?_
       refine sV (rAdd rfl rfl rfl (by omega) (by omega)) ?_
       refine pV ?_
       refine ⟨j + 1, ⟨rfl, rfl, rfl, rfl, rfl, rfl, rfl, rfl, rfl, rfl, rfl, rfl, rfl, rfl, trivial⟩, by first | exact cs _ _ | exact CSub.refl _, ?_⟩
       refine ⟨⟨⟨by omega, by omega⟩, fun z hz hq => ?_⟩, by omega⟩
       by_cases hzj : (z : Int) < j
       ·exact hj z hzj hq
       ·have hg1 : Po.len (Po.gcd (pol a : Po (El p m mod)) (xq p m mod i.toNat)) ≤ 1 := by
         rw [pol_il, pol_il, pol_il, pol_il, pol_X01, gcd_sub_xq hm0] at h18
         omega
        exact Po.gcd_one_of hm0 hg1
     ·refine tR fun _ _ _ => ?_
      refine pV ?_
      refine sV (rFld rfl rfl) ?_
      refine sV (rLdF rfl rfl rfl) ?_
      refine sV (rQuo rfl rfl rfl (by omega) (by omega)) ?_
      iterate 3 refine pV ?_
      refine skF rfl rfl (by first | exact decide_eq_false hs | (rw [decide_eq_false hs]; rfl)) rfl rfl ?_
      refine skF rfl rfl (by first | exact decide_eq_false hs | (rw [decide_eq_false hs]; rfl)) rfl rfl ?_
      refine skF rfl rfl (by first | exact decide_eq_false hs | (rw [decide_eq_false hs]; rfl)) rfl rfl ?_
      refine skF rfl rfl (by first | exact decide_eq_false hs | (rw [decide_eq_false hs]; rfl)) rfl rfl ?_
      refine skF rfl rfl (by first | exact decide_eq_false hs | (rw [decide_eq_false hs]; rfl)) rfl rfl ?_
      refine skF rfl rfl (by first | exact decide_eq_false hs | (rw [decide_eq_false hs]; rfl)) rfl rfl ?_
      refine skF rfl rfl (by first | exact decide_eq_false hs | (rw [decide_eq_false hs]; rfl)) rfl rfl ?_
      have hs1 := il_length (pol (il (Po.rem (Rg.pow Po.X ((pw p m).toNat ^ i.toNat)) (pol a : Po (El p m mod)))) - pol [0, 1] : Po (El p m mod))
      have hs2 := Po.len_sub (pol (il (Po.rem (Rg.pow Po.X ((pw p m).toNat ^ i.toNat)) (pol a : Po (El p m mod))))) (pol [0, 1] : Po (El p m mod))
      have hs3 : Po.len (pol (il (Po.rem (Rg.pow Po.X ((pw p m).toNat ^ i.toNat)) (pol a : Po (El p m mod)))) : Po (El p m mod)) = Po.len (Po.rem (Rg.pow Po.X ((pw p m).toNat ^ i.toNat)) (pol a : Po (El p m mod))) := by rw [pol_il]
      have hs4 : Po.len (pol [0, 1] : Po (El p m mod)) ≤ 2 := Po.len_le (pol_sh [0, 1])
      refine skF rfl rfl (by first | exact decide_eq_false hs | (rw [decide_eq_false hs]; rfl)) rfl rfl ?_
      have hs5 := il_length (Po.gcd (pol (il (pol a : Po (El p m mod)))) (pol (il (pol (il (Po.rem (Rg.pow Po.X ((pw p m).toNat ^ i.toNat)) (pol a : Po (El p m mod)))) - pol [0, 1] : Po (El p m mod)))) : Po (El p m mod))
      have hs6 := gcd_len (p := p) (m := m) (mod := mod) (f := pol (il (pol (il (Po.rem (Rg.pow Po.X ((pw p m).toNat ^ i.toNat)) (pol a : Po (El p m mod)))) - pol [0, 1] : Po (El p m mod)))) (show (pol (il (pol a : Po (El p m mod))) : Po (El p m mod)) ≠ 0 by rw [pol_il]; exact hm0)
      have hs7 : Po.len (pol (il (pol a : Po (El p m mod))) : Po (El p m mod)) = Po.len (pol a : Po (El p m mod)) := by rw [pol_il]
      refine skF rfl rfl (by first | exact decide_eq_false hs | (rw [decide_eq_false hs]; rfl)) rfl rfl ?_
      refine skF rfl rfl (by first | exact decide_eq_false hs | (rw [decide_eq_false hs]; rfl)) rfl rfl ?_
      refine sV (rPick0 rfl rfl (by first | exact decide_eq_false hs | (rw [decide_eq_false hs]; rfl)) rfl) ?_
      refine tC rfl (fun h18 => ?_) (fun h18 => ?_)
      ·try simp only [zbA] at h18
       refine tS ?_
       refine tR fun _ _ _ => ?_
       iterate 2 refine pV ?_
       rcases Classical.em (((N : Int) / (ps.getD j.toNat (0, 0)).1) = i) with hs3 | hs3
       ·first
         | exact absurd hs3 hs
         | (have hno : irB (pol a : Po (El p m mod)) = false := irr_no hN h1N hps hjl (by rw [hs3]; intro h1; rw [pol_il, pol_il, pol_il, pol_il, pol_X01, gcd_sub_xq hm0, h1, Po.len_one] at h18; omega); exact tr_ret ⟨trivial, _, _, rfl, ⟨by rw [hno], rfl⟩, CSub.nil _, trivial⟩)
       ·exfalso; first | exact hs3 hs | (simp at h18; done) | exact absurd h18 (by simp)
      ·try simp only [zbA] at h18
       refine tK ?_
       refine tR fun _ _ _ => ?_
       refine sV (rAdd rfl rfl rfl (by omega) (by omega)) ?_
       refine pV ?_
       refine ⟨j + 1, ⟨rfl, rfl, rfl, rfl, rfl, rfl, rfl, rfl, rfl, rfl, rfl, rfl, rfl, rfl, trivial⟩, by first | exact cs _ _ | exact CSub.refl _, ?_⟩
       refine ⟨⟨⟨by omega, by omega⟩, fun z hz hq => ?_⟩, by omega⟩
       by_cases hzj : (z : Int) < j
       ·exact hj z hzj hq
       ·rw [show z = j.toNat by omega] at hq; exact absurd hq hs
    ·try simp only [zbA] at h16
     refine tE ?_
     refine tR fun _ _ _ => ?_
     refine pV ?_
     refine sV (rAdd rfl rfl rfl (by omega) (by omega)) ?_
     refine pV ?_
     refine ⟨i + 1, B14, c14, (Po.rem (Rg.pow Po.X ((pw p m).toNat ^ i.toNat)) (pol a : Po (El p m mod))), ⟨rfl, rfl, rfl, rfl, rfl, rfl, rfl, rfl, trivial⟩, by exact (cs _ [ow B14 3 c14 (ints (il (Po.rem (Rg.pow Po.X ((pw p m).toNat ^ i.toNat)) (pol a : Po (El p m mod))))), ro B9 (ints (il (Po.rem Po.X (pol a : Po (El p m mod))))), ow A8 3 2 (ints [0, 1]), ow2 B7 74 c7 (pws ps), ow B1 3 c1 (ints (il (pol a : Po (El p m mod)))), gfR g]).trans (ow_ro _), ?_⟩
     refine ⟨⟨⟨by omega, by omega⟩, by rw [show (i + 1 - 1).toNat = i.toNat by omega], fun z hz hlt => ?_⟩, by omega⟩
     by_cases hq : ((N : Int) / (ps.getD z (0, 0)).1) = i
     ·rw [hq]; exact hj z (by omega) hq
     ·exact hall z hz (by omega)
   ·try simp only [zbA] at h12
    refine tE ?_
    refine tS ?_
    have hiN : i = N + 1 := by omega
    have hilh := il_length (Po.rem (Rg.pow Po.X ((pw p m).toNat ^ (i - 1).toNat)) (pol a : Po (El p m mod)))
    have hlrh := Po.rem_len (Rg.pow Po.X ((pw p m).toNat ^ (i - 1).toNat)) hm0
    refine tR fun _ _ _ => ?_
    iterate 2 refine pV ?_
    refine eV (eCallV rfl rfl rfl (slc_Equal Bh _ ch (il (Po.rem (Rg.pow Po.X ((pw p m).toNat ^ (i - 1).toNat)) (pol a : Po (El p m mod)))) rfl B9 _ c9 (il (Po.rem Po.X (pol a : Po (El p m mod)))) rfl (by omega)) ⟨rfl, rfl, trivial⟩ ?_)
    iterate 2 refine pV ?_
    have hyes := irr_yes hN h1N hps (fun z hz => hall z hz (by have := nq_le hps h1N hz; omega))
    rw [show (i - 1).toNat = N by omega, hyes]
    exact tr_ret ⟨trivial, _, _, rfl, ⟨rfl, rfl⟩, CSub.nil _, trivial⟩
end Go.Proofs.Ytdkahdehodopoaa

set_option maxRecDepth 100000
namespace Go.Proofs.Ytdkahdehodopoaa
open Go.RowKit
section
variable {p m : Int} {mod : List Int} [hF : IsF p m mod]
theorem pol_X001 : (pol [0, 0, 1] : Po (El p m mod)) = Po.X * Po.X := Po.ext fun j => by
 rw [cf_pol, Po.cf_mn_mul]
 match j with
 | 0 => rw [List.getD_cons_zero, if_pos (by omega), el_zero]
 | 1 => rw [List.getD_cons_succ, List.getD_cons_zero, if_neg (by omega), el_zero, Po.cf_mn, if_neg (by omega), Rg.mul_zero]
 | 2 => rw [List.getD_cons_succ, List.getD_cons_succ, List.getD_cons_zero, if_neg (by omega), Po.cf_mn, if_pos rfl, Rg.mul_one]; exact el_one
 | j + 3 => rw [List.getD_cons_succ, List.getD_cons_succ, List.getD_cons_succ, List.getD_nil, if_neg (by omega), Po.cf_mn, if_neg (by omega), Rg.mul_zero, el_zero]
theorem len_X2 : Po.len (Po.X : Po (El p m mod)) = 2 := Po.len_eq (n := 1) (fun j hj => by rw [Po.cf_mn, if_neg (by omega)]) (by rw [Po.cf_mn, if_pos rfl]; exact Fd.one_ne)
theorem X_ne0 : (Po.X : Po (El p m mod)) ≠ 0 := Po.len_pos_iff.1 (by rw [len_X2]; omega)
theorem ir_X : Po.Ir (Po.X : Po (El p m mod)) := Po.ir_of_no (by rw [len_X2]; omega) fun P hP hd => by
 have h1 := Po.dvd_len hd X_ne0
 have h2 := hP.two
 rw [len_X2] at h1 ⊢
 omega
theorem len_XX : Po.len (Po.X * Po.X : Po (El p m mod)) = 3 := by rw [Po.len_mul X_ne0 X_ne0, len_X2]
theorem not_ir_XX : ¬ Po.Ir (Po.X * Po.X : Po (El p m mod)) := fun h => h.sf Po.X ir_X (Po.dvd_refl _)
end
theorem law06_alive_ent : Enters Try.prog 10 := enters_of Try.func10 (by kernel_rfl) (by kernel_rfl)
theorem law06_alive (g : GfM) {p m : Int} {mod : List Int} [hF : IsF p m mod] (hg : GOk g p m mod) :
  Pure Try.prog 10 #[.pointer (some g.p)] [gfR g] (isV (.bool true)) := by
 refine pure_of (args := [.pointer (some g.p)]) 32 Try.func10 rfl rfl rfl law06_alive_ent ⟨id, trivial⟩ (fun w0 => ?_)
 refine tS ?_
 refine tR fun _ _ _ => ?_
 refine pV ?_
 refine tS ?_
 refine tR fun _ _ _ => ?_
 refine pV ?_
 refine eV (eLit3I rfl rfl rfl rfl rfl rfl (fun A1 => ?_))
 refine eV (eCallV rfl rfl rfl (fac_Irr g hg A1 3 3 [0, 0, 1] rfl (by simp) (by rw [pol_X001, len_XX]; rfl) 2 (by rw [pol_X001, len_XX]) (by omega) [(2, 1)] (by simp) prL_two num_Factor2) ⟨rfl, rfl, trivial⟩ ?_)
 iterate 5 refine pV ?_
 rw [pol_X001, irB_no not_ir_XX]
 refine tS ?_
 refine tR fun _ _ _ => ?_
 refine pV ?_
 refine eV (eLit2I rfl rfl rfl rfl rfl (fun A2 => ?_))
 refine eV (eCallV rfl rfl rfl (fac_Irr g hg A2 2 2 [0, 1] rfl (by simp) (by rw [pol_X01, len_X2]; rfl) 1 (by rw [pol_X01, len_X2]) (by omega) [] (by simp) prL_one num_Factor1) ⟨rfl, rfl, trivial⟩ ?_)
 iterate 5 refine pV ?_
 rw [pol_X01, irB_iff.2 ir_X]
 refine tS ?_
 refine tR fun _ _ _ => ?_
 refine pV ?_
 refine sV (rNotB rfl rfl) ?_
 refine pV ?_
 refine stg rfl rfl rfl rfl rfl (fun hb => by (have hq := hb; try simp only [zbA] at hq); exact rMove rfl rfl) ?_
 refine stg rfl rfl rfl rfl rfl (fun hb => by (have hq := hb; try simp only [zbA] at hq); exact rEql rfl (evg rfl hb) rfl) ?_
 refine sV (rAndB rfl rfl rfl rfl) ?_
 refine pV ?_
 refine stg rfl rfl rfl rfl rfl (fun hb => by (have hq := hb; try simp only [zbA] at hq); exact rMove rfl rfl) ?_
 refine sV (rAndB rfl rfl rfl rfl) ?_
 refine pV ?_
 refine stg rfl rfl rfl rfl rfl (fun hb => by (have hq := hb; try simp only [zbA] at hq); exact rMove rfl rfl) ?_
 refine stg rfl rfl rfl rfl rfl (fun hb => by (have hq := hb; try simp only [zbA] at hq); exact rEql rfl (evg rfl hb) rfl) ?_
 refine sV (rAndB rfl rfl rfl rfl) ?_
 refine pV ?_
 exact tr_ret ⟨trivial, _, _, rfl, ⟨by simp, rfl⟩, CSub.nil _, trivial⟩
end Go.Proofs.Ytdkahdehodopoaa

namespace Go.Proofs.Ytdkahdehodopoaa
open Go.RowKit
section
end
section
end
end Go.Proofs.Ytdkahdehodopoaa

set_option maxRecDepth 100000
namespace Go.Proofs.Ytdkahdehodopoaa
open Go.RowKit
section
end
end Go.Proofs.Ytdkahdehodopoaa

set_option maxRecDepth 100000
namespace Go.Proofs.Ytdkahdehodopoaa
open Go.RowKit
end Go.Proofs.Ytdkahdehodopoaa

namespace Go.Proofs.Ytdkahdehodopoaa
open Go.ChangeShapes Go.WideShapes Go.ChangeAt Go.RowKit Go.Deep
structure FacM where
 r : RowM
 k : Int
def facD : FacM := ⟨rowD, 0⟩
instance : Inhabited FacM := ⟨facD⟩
section
end
section
end
end Go.Proofs.Ytdkahdehodopoaa

set_option maxRecDepth 100000
namespace Go.Proofs.Ytdkahdehodopoaa
open Go.RowKit
section
end
section
end
end Go.Proofs.Ytdkahdehodopoaa

namespace Go.Proofs.Ytdkahdehodopoaa
open Go.RowKit
section
open Po
end
end Go.Proofs.Ytdkahdehodopoaa

set_option maxRecDepth 100000
namespace Go.Proofs.Ytdkahdehodopoaa
open Go.RowKit
def fd1 (P : Program) (t : TypeId) (f : Nat) : Option Nat :=
 match P.underlying t with
 | some (.struct fs) => match fs[f]? with
  | some fd => if isSc P fd.type then some fd.offset else none
  | none => none
 | _ => none
class F1Ty (P : Program) (t : TypeId) (f : Nat) (off : outParam Nat) : Prop where
 off : fd1 P t f = some off
section
end
section
end
instance tyF10 : F1Ty Try.prog 24 0 0 := ⟨by kernel_rfl⟩
section
end
section
open Po
end
end Go.Proofs.Ytdkahdehodopoaa

namespace Go.Proofs.Ytdkahdehodopoaa
open Go
end Go.Proofs.Ytdkahdehodopoaa

set_option maxRecDepth 100000
namespace Go.Proofs.Ytdkahdehodopoaa
open Go Go.RowKit Go.Sort
end Go.Proofs.Ytdkahdehodopoaa

set_option maxRecDepth 100000
namespace Go.Proofs.Ytdkahdehodopoaa
open Go.RowKit
section
open Po
end
end Go.Proofs.Ytdkahdehodopoaa

set_option maxRecDepth 100000
namespace Go.Proofs.Ytdkahdehodopoaa
open Go.RowKit
section
end
end Go.Proofs.Ytdkahdehodopoaa

namespace Go.Proofs.Ytdkahdehodopoaa
open Go.RowKit
section
open Po
end
end Go.Proofs.Ytdkahdehodopoaa

namespace Go.Proofs.Ytdkahdehodopoaa
open Po
section
end
end Go.Proofs.Ytdkahdehodopoaa

namespace Go.Proofs.Ytdkahdehodopoaa
open Go.RowKit
section
variable {p m : Int} {mod : List Int} [hF : IsF p m mod]
open Po
variable {f : Po (El p m mod)} {fs : List FacM} {j : Nat} {Ls : List (Po (El p m mod) × Int)}
open Classical in
theorem mu_ir {P Q : Po (El p m mod)} (hP : Ir P) (hQ : Ir Q) (h1 : lead P = 1) (h2 : lead Q = 1) : mu P Q = if P = Q then 1 else 0 := by
 by_cases e : P = Q
 ·subst e
  rw [if_pos rfl]
  refine mu_eq hP hP.ne (by rw [Rg.pow_one]; exact ⟨1, (Rg.mul_one _).symm⟩) fun hd => ?_
  have h3 := dvd_len hd hP.ne
  rw [len_powN hP.ne] at h3
  have := hP.two
  omega
 ·rw [if_neg e]
  refine mu_eq hP hQ.ne (one_dvd _) fun hd => e ?_
  rw [Nat.zero_add, Rg.pow_one] at hd
  exact hP.one hQ h1 h2 hd
end
end Go.Proofs.Ytdkahdehodopoaa

namespace Go.Proofs.Ytdkahdehodopoaa
open Go.RowKit
def isArN (P : Program) (t : TypeId) : Option (Nat × TypeId) :=
 match P.underlying t with
 | some (.array n e) => if isSc P e then some (n, e) else none
 | _ => none
class ArTy (P : Program) (t : TypeId) (n : outParam Nat) (e : outParam TypeId) : Prop where
 ar : isArN P t = some (n, e)
 inf : (P.info? t).map (·.size) = some n
theorem ArTy.und {P : Program} {t e : TypeId} {n : Nat} (h : ArTy P t n e) : P.underlying t = some (.array n e) ∧ isSc P e = true := by
 have h0 := h.ar
 unfold isArN at h0
 split at h0
 ·rename_i n' e' hu
  split at h0
  ·rename_i hs
   simp only [Option.some.injEq, Prod.mk.injEq] at h0
   obtain ⟨rfl, rfl⟩ := h0
   exact ⟨hu, hs⟩
  ·cases h0
 ·cases h0
section
variable {P : Program} {N : NB} {M : Nat → Prop} {w0 : World} {L : Fr} {F F' : List Chunk} {K : Fr → List Chunk → Prop} {b : Bool} {o : Oper} {v : Value} {x y : Operand} {t e et : TypeId}
theorem rBuildA {ps : List (Nat × Operand)} {us : List (Nat × Value)} {zs cells : List Value} {n : Nat} (ho : o.op = .build t ps.toArray) (hx : evp L ps = some us) [h : ArTy P t n et] [hz : ZrTy P t zs] (hf : Instr.fill (fun i => some (i * 1, 1)) zs.toArray us = some cells.toArray) : Stl P N M w0 o L F (.agg cells.toArray) := fun a w hl hm => by
 have h1 : (ps.toArray.map fun p => (p.1, a.eval p.2)) = us.toArray := by simp [evp_ok hl ps us hx]
 obtain ⟨z, hz1, hz2⟩ := hz.zr
 have hzr : (zeroValue t).run P w = .ok z w := by
  cases hi : P.info? t with
  | none => simp [hi] at hz1
  | some i => simp only [hi, Option.bind_some] at hz1; simp [zeroValue, typeInfo, hi, hz1]
 have hsz : (sizeOf et).run P w = .ok 1 w := run_size1 (scTy_of h.und.2).inf w
 simp only [Nat.mul_one] at hf
 have h2 : (Instr.build t us.toArray).run P w = .ok (.agg cells.toArray) w := by
  simp only [Instr.build, Sem.run_bind, hzr, Result.andThen_ok, run_und h.und.1, hsz, hz2]
  simp [hf]
 have h3 : execOp a.eval o = (do pure (.value (← Instr.build t us.toArray))) := by
  rw [← h1]
  simp only [execOp, ho]
 rw [h3]
 simp only [Sem.run_bind, h2, Result.andThen_ok, Sem.run_pure]
theorem eStA {tq : TypeId} {p : Addr} {vs us : List Value} {n : Nat} (ho : o.op = .store t x y) (hd : o.dst = none) [h : ArTy P t n et] (hx : ev L x = some (.pointer (some p))) (hy : ev L y = some (.agg us.toArray)) [hp : PkBlk F p tq vs F'] (h1 : vs.length = n) (h2 : us.length = n) (hv : us.all (·.oneCell') = true)
  (hK : K L (blk p tq us :: F')) : Eff P N M w0 false o L F K := eff_skip hd fun a w hl hm => by
 have hmp := hm.perm hp.perm
 have hb : (blk p tq vs).sat w := hmp.sat _ (List.mem_cons_self ..)
 have hrun := run_storeCells_from (P := P) p.block tq us 0 vs.toArray w hb.2 (by simp; omega) (fun u hu => List.all_eq_true.1 hv u hu)
 simp only [List.take_zero, List.nil_append] at hrun
 refine ⟨w.setRow p.block us.toArray, ?_, _, hmp.change (by exact trivial) (d := blk p tq us) ⟨rfl, rfl, rfl, by simp [World.setRow], fun k hk hc => setRow_other w p.block k us.toArray (fun e => hc e.symm)⟩ ⟨hb.1, setRow_heap w p.block _ _ _ _ hb.2⟩ (fun b hb => .inl hb), hK⟩
 have hpe : (⟨p.block, 0, none⟩ : Addr) = p := hb.1.symm
 rw [hpe] at hrun
 have hsz : (sizeOf t).run P w = .ok n w := run_size1 h.inf w
 have hst : (Instr.storeAt t (.pointer (some p)) (.agg us.toArray)).run P w = .ok () (w.setRow p.block us.toArray) := by
  simp only [Instr.storeAt, Instr.sureAddr, Sem.run_bind, Sem.run_pure, Result.andThen_ok, storeVar, hsz, Value.cells]
  simp [h2, hrun]
 simp only [execOp, ho, hl.eval hx, hl.eval hy, Sem.run_bind, hst, Result.andThen_ok, Sem.run_pure]
theorem cellA {p : Addr} {n : Nat} {vs : List Value} [h : ArTy P t n et] [hr : Rd F (some p) vs] (hn : vs.length = n) : CellV P F p t (.agg vs.toArray) := ⟨fun M w0 w hm => by
 have hu := h.und.1
 have hs := hr.rd M w0 w hm
 have hag : (isAgg t).run P w = .ok true w := by simp [isAgg, run_und hu]
 have hld : (loadCells p n).run P w = .ok vs.toArray w := by
  subst hn
  have := loadCellsFrom_ok (P := P) (w := w) (ad := p) vs 0 #[] (fun j hj => by
   obtain ⟨ad, h1, hc⟩ := hs j hj
   simp only [Option.some.injEq] at h1
   subst h1
   simpa using hc)
  simpa [loadCells] using this
 simp [loadVar, hag, run_size1 h.inf, hld]⟩
theorem rIndexA {l : List Int} {i : Int} {n : Nat} (ho : o.op = .index t x y) [h : ArTy P t n et] (hx : ev L x = some (.agg (ints l).toArray)) (hy : ev L y = some (.int .i64 i)) (hn : l.length = n) (h0 : 0 ≤ i) (h1 : i < n) : Stl P N M w0 o L F (.int .i64 (l.getD i.toNat 0)) := fun a w hl hm => by
 obtain ⟨hu, hs⟩ := h.und
 have hsz : (sizeOf et).run P w = .ok 1 w := run_size1 (scTy_of hs).inf w
 obtain ⟨d, hd, hnn⟩ := (scTy_of hs).und
 have hag : (isAgg et).run P w = .ok false w := by
  simp only [isAgg, Sem.run_bind, run_und hd, Result.andThen_ok]
  cases d <;> first | exact hnn.elim | rfl
 have hlt : i.toNat < l.length := by omega
 have hv : (ints l)[i.toNat]? = some (.int .i64 (l[i.toNat]?.getD 0)) := by
  simp [ints, List.getElem?_map, List.getElem?_eq_getElem hlt]
 simp only [execOp, ho, hl.eval hx, hl.eval hy, Sem.run_bind]
 simp [Instr.index, asIntOf, run_und hu, h0, h1, hsz, part, hag, hv]
end
end Go.Proofs.Ytdkahdehodopoaa

namespace Go.Proofs.Ytdkahdehodopoaa
structure LeastD (n d : Nat) : Prop where
 two : 2 ≤ d
 dvd : d ∣ n
 le : ∀ u, 2 ≤ u → u ∣ n → d ≤ u
theorem LeastD.uniq {n d e : Nat} (h : LeastD n d) (k : LeastD n e) : d = e := Nat.le_antisymm (h.le e k.two k.dvd) (k.le d h.two h.dvd)
theorem mod_of {n u : Nat} (h : u ∣ n) : (n : Int) % (u : Int) = 0 := by
 obtain ⟨k, rfl⟩ := h
 rw [Int.natCast_mul]; exact Int.mul_emod_right _ _
theorem dvd_of {n : Nat} {d : Int} (hd : 0 < d) (h : (n : Int) % d = 0) : d.toNat ∣ n := by
 have h1 : d ∣ (n : Int) := Int.dvd_of_emod_eq_zero h
 have h2 : ((d.toNat : Nat) : Int) = d := by omega
 rw [← h2] at h1
 exact Int.natCast_dvd_natCast.1 h1
def No235 (n : Nat) : Prop := (n : Int) % 2 ≠ 0 ∧ (n : Int) % 3 ≠ 0 ∧ (n : Int) % 5 ≠ 0
theorem least_low {n d : Nat} (hd : 2 ≤ d) (h : d ∣ n) (hno : ∀ u, 2 ≤ u → u < d → ¬ u ∣ n) : LeastD n d := ⟨hd, h, fun u h1 h2 => Nat.le_of_not_lt fun h3 => hno u h1 h3 h2⟩
theorem least_self {n d : Nat} (hn : 2 ≤ n) (hlt : n < d * d) (hno : ∀ u, 2 ≤ u → u < d → ¬ u ∣ n) : LeastD n n := ⟨hn, Nat.dvd_refl n, fun u h1 h2 => Nat.le_of_not_lt fun h3 => by
 obtain ⟨v, rfl⟩ := h2
 have hv : 2 ≤ v := by
  rcases Nat.lt_or_ge v 2 with h | h
  ·have : v = 0 ∨ v = 1 := by omega
   rcases this with rfl | rfl <;> omega
  ·exact h
 have hu : d ≤ u := Nat.le_of_not_lt fun h => hno u h1 h (Nat.dvd_mul_right ..)
 have hv2 : d ≤ v := Nat.le_of_not_lt fun h => hno v hv h (Nat.dvd_mul_left ..)
 have := Nat.mul_le_mul hu hv2
 omega⟩
theorem no_16 {n : Nat} {d : Nat} (h : No235 n) (hd : d = 7 ∨ (d = 11 ∧ (n : Int) % 7 ≠ 0) ∨ (d = 13 ∧ (n : Int) % 7 ≠ 0 ∧ (n : Int) % 11 ≠ 0) ∨ (d = 17 ∧ (n : Int) % 7 ≠ 0 ∧ (n : Int) % 11 ≠ 0 ∧ (n : Int) % 13 ≠ 0)) : ∀ u, 2 ≤ u → u < d → ¬ u ∣ n := fun u h1 h2 h3 => by
 obtain ⟨a, b, c⟩ := h
 have h4 := mod_of h3
 have hu : u ≤ 16 := by omega
 have : u = 2 ∨ u = 3 ∨ u = 4 ∨ u = 5 ∨ u = 6 ∨ u = 7 ∨ u = 8 ∨ u = 9 ∨ u = 10 ∨ u = 11 ∨ u = 12 ∨ u = 13 ∨ u = 14 ∨ u = 15 ∨ u = 16 := by omega
 rcases this with rfl | rfl | rfl | rfl | rfl | rfl | rfl | rfl | rfl | rfl | rfl | rfl | rfl | rfl | rfl <;> omega
open Classical in
noncomputable def leastN (n : Nat) : Nat := if h : ∃ d, LeastD n d then Classical.choose h else n
theorem leastN_eq {n d : Nat} (h : LeastD n d) : leastN n = d := by
 have he : ∃ d, LeastD n d := ⟨d, h⟩
 unfold leastN
 rw [dif_pos he]
 exact (Classical.choose_spec he).uniq h
theorem leastN_of {n : Nat} (h : 2 ≤ n) : LeastD n (leastN n) := by
 have key : ∀ d, (∃ e, LeastD n e) ∨ ∀ u, 2 ≤ u → u < d → ¬ u ∣ n := fun d => by
  induction d with
  | zero => exact .inr fun u _ h => by omega
  | succ d ih =>
   rcases ih with h | h
   ·exact .inl h
   ·by_cases hd : 2 ≤ d ∧ d ∣ n
    ·exact .inl ⟨d, least_low hd.1 hd.2 h⟩
    ·refine .inr fun u h1 h2 h3 => ?_
     rcases Nat.lt_or_eq_of_le (Nat.le_of_lt_succ h2) with e | e
     ·exact h u h1 e h3
     ·subst e; exact hd ⟨h1, h3⟩
 have he : ∃ d, LeastD n d := by
  rcases key (n + 1) with h1 | h1
  ·exact h1
  ·exact absurd (Nat.dvd_refl n) (h1 n h (by omega))
 unfold leastN
 rw [dif_pos he]
 exact Classical.choose_spec he
def isPr (r : Nat) : Prop := 2 ≤ r ∧ ∀ u, 2 ≤ u → u ∣ r → u = r
theorem LeastD.prime {n d : Nat} (h : LeastD n d) : isPr d := ⟨h.two, fun u h1 h2 => Nat.le_antisymm (Nat.le_of_dvd (by have := h.two; omega) h2) (h.le u h1 (Nat.dvd_trans h2 h.dvd))⟩
theorem pr_mul {r a b : Nat} (hr : isPr r) (h : r ∣ a * b) : r ∣ a ∨ r ∣ b := by
 have hr2 := hr.1
 by_cases h0 : a % r = 0
 ·exact .inl (Nat.dvd_of_mod_eq_zero h0)
 ·right
  refine prime_dvd hr2 (fun d h1 h2 h3 => by have := hr.2 d h1 h3; omega) (a := a % r) (by omega) (Nat.mod_lt _ (by omega)) ?_
  have e : a * b = r * (a / r * b) + a % r * b := by
   conv => lhs; rw [← Nat.div_add_mod a r]
   rw [Nat.add_mul, Nat.mul_assoc]
  rw [e] at h
  exact (Nat.dvd_add_right (Nat.dvd_mul_right ..)).1 h
theorem pr_pow {r a : Nat} (hr : isPr r) : ∀ n, r ∣ a ^ n → r ∣ a
 | 0, h => by rw [Nat.pow_zero] at h; have := Nat.le_of_dvd (by omega) h; have := hr.1; omega
 | n + 1, h => by
  rw [Nat.pow_succ] at h
  rcases pr_mul hr h with h | h
  ·exact pr_pow hr n h
  ·exact h
theorem two_le_pow {a e : Nat} (h : 2 ≤ a) (he : 1 ≤ e) : 2 ≤ a ^ e := by have := Nat.pow_le_pow_right (n := a) (by omega) he; rw [Nat.pow_one] at this; omega
def fprod : List (Int × Int) → Nat
 | [] => 1
 | q :: ps => q.1.toNat ^ q.2.toNat * fprod ps
theorem fprod_app (a b : List (Int × Int)) : fprod (a ++ b) = fprod a * fprod b := by
 induction a with
 | nil => exact (Nat.one_mul _).symm
 | cons x a ih => rw [List.cons_append, fprod, fprod, ih, Nat.mul_assoc]
structure PrF (n : Nat) (ps : List (Int × Int)) : Prop where
 each : ∀ q ∈ ps, isPr q.1.toNat ∧ 0 ≤ q.1 ∧ 1 ≤ q.2
 srt : ps.Pairwise fun x y => x.1 < y.1
 prod : fprod ps = n
theorem pr_fprod {r : Nat} (hr : isPr r) : ∀ {ps : List (Int × Int)}, (∀ q ∈ ps, isPr q.1.toNat ∧ 0 ≤ q.1 ∧ 1 ≤ q.2) → r ∣ fprod ps → ∃ q ∈ ps, q.1 = (r : Int)
 | [], _, h => by
  change r ∣ 1 at h
  have := Nat.le_of_dvd (by omega) h
  have := hr.1
  omega
 | q :: ps, hq, h => by
  rw [fprod] at h
  rcases pr_mul hr h with h | h
  ·have h1 := pr_pow hr _ h
   have h2 := (hq q (List.mem_cons_self ..))
   have h3 := h2.1.2 r hr.1 h1
   exact ⟨q, List.mem_cons_self .., by omega⟩
  ·obtain ⟨x, hx, e⟩ := pr_fprod hr (fun x hx => hq x (List.mem_cons_of_mem _ hx)) h
   exact ⟨x, List.mem_cons_of_mem _ hx, e⟩
theorem fprod_dvd : ∀ {ps : List (Int × Int)} {q : Int × Int}, q ∈ ps → 1 ≤ q.2 → q.1.toNat ∣ fprod ps
 | x :: ps, q, h, h1 => by
  rw [fprod]
  rcases List.mem_cons.1 h with rfl | h
  ·obtain ⟨e, he⟩ : ∃ e, q.2.toNat = e + 1 := ⟨q.2.toNat - 1, by omega⟩
   rw [he, Nat.pow_succ, Nat.mul_comm (q.1.toNat ^ e), Nat.mul_assoc]
   exact Nat.dvd_mul_right ..
  ·exact Nat.dvd_trans (fprod_dvd h h1) (Nat.dvd_mul_left ..)
theorem PrF.prL {n : Nat} {ps : List (Int × Int)} (h : PrF n ps) : PrL n ps := by
 refine ⟨fun q hq => by have := (h.each q hq).1.1; omega, fun r => ⟨?_, ?_⟩⟩
 ·rintro ⟨q, hq, e⟩
  obtain ⟨a, b, c⟩ := h.each q hq
  have er : r = q.1.toNat := by omega
  subst er
  exact ⟨a.1, a.2, by rw [← h.prod]; exact fprod_dvd hq c⟩
 ·rintro ⟨a, b, c⟩
  exact pr_fprod ⟨a, b⟩ h.each (by rw [h.prod]; exact c)
structure FacJ (n t : Nat) (ps : List (Int × Int)) : Prop where
 each : ∀ q ∈ ps, isPr q.1.toNat ∧ 0 ≤ q.1 ∧ 1 ≤ q.2
 srt : ps.Pairwise fun x y => x.1 < y.1
 prod : fprod ps * t = n
 lt : ∀ q ∈ ps, ∀ u : Nat, 2 ≤ u → u ∣ t → q.1 < (u : Int)
theorem FacJ.start (n : Nat) : FacJ n n [] := ⟨fun q h => by simp at h, .nil, Nat.one_mul _, fun q h => by simp at h⟩
theorem FacJ.next {n t u e : Nat} {ps : List (Int × Int)} (h : FacJ n t ps) (ht : 2 ≤ t) (hu : u * leastN t ^ e = t) (he : 1 ≤ e) (hn : ¬ leastN t ∣ u) : FacJ n u (ps ++ [((leastN t : Int), (e : Int))]) := by
 have hl := leastN_of ht
 refine ⟨fun q hq => ?_, List.pairwise_append.2 ⟨h.srt, List.pairwise_singleton _ _, fun x hx y hy => ?_⟩, ?_, fun q hq v h1 h2 => ?_⟩
 ·rcases List.mem_append.1 hq with hq | hq
  ·exact h.each q hq
  ·rw [List.mem_singleton] at hq
   subst hq
   exact ⟨hl.prime, by show (0 : Int) ≤ ((leastN t : Nat) : Int); omega, by show (1 : Int) ≤ (e : Int); omega⟩
 ·rw [List.mem_singleton] at hy
  subst hy
  exact h.lt x hx _ hl.two hl.dvd
 ·rw [fprod_app, fprod, fprod, Nat.mul_one, Nat.mul_assoc, ← h.prod]
  congr 1
  show (leastN t : Int).toNat ^ (e : Int).toNat * u = t
  rw [Int.toNat_natCast, Int.toNat_natCast, Nat.mul_comm]; exact hu
 ·have hut : u ∣ t := ⟨_, hu.symm⟩
  rcases List.mem_append.1 hq with hq | hq
  ·exact h.lt q hq v h1 (Nat.dvd_trans h2 hut)
  ·rw [List.mem_singleton] at hq
   subst hq
   have h3 := hl.le v h1 (Nat.dvd_trans h2 hut)
   have h4 : leastN t ≠ v := fun e => hn (by rw [e]; exact h2)
   show ((leastN t : Nat) : Int) < (v : Int)
   omega
theorem FacJ.done {n : Nat} {ps : List (Int × Int)} (h : FacJ n 1 ps) : PrF n ps := ⟨h.each, h.srt, by have := h.prod; rwa [Nat.mul_one] at this⟩
end Go.Proofs.Ytdkahdehodopoaa

set_option maxRecDepth 100000
set_option maxHeartbeats 1000000
namespace Go.Proofs.Ytdkahdehodopoaa
open Go.RowKit
instance tyAr8 : ArTy Try.prog 123 8 3 := ⟨by kernel_rfl, by kernel_rfl⟩
instance zrAr8 : ZrTy Try.prog 123 [.int .i64 0, .int .i64 0, .int .i64 0, .int .i64 0, .int .i64 0, .int .i64 0, .int .i64 0, .int .i64 0] := ⟨.agg #[.int .i64 0, .int .i64 0, .int .i64 0, .int .i64 0, .int .i64 0, .int .i64 0, .int .i64 0, .int .i64 0], by kernel_rfl, rfl⟩
theorem num_wheel_ent : Enters Try.prog 90 := enters_of Try.func90 (by kernel_rfl) (by kernel_rfl)
theorem num_wheel  :
  Pure Try.prog 90 #[] [] (isV (.agg (ints [1, 7, 11, 13, 17, 19, 23, 29]).toArray)) := by
 refine pure_ofC (args := []) 2 Try.func90 rfl rfl rfl num_wheel_ent trivial (fun w0 => ?_)
 refine tS ?_
 refine tR fun _ _ _ => ?_
 refine eV (eAlloc rfl rfl rfl (fun p0 => ?_))
 refine tS ?_
 refine tR fun _ _ _ => ?_
 refine sV (rBuildA (cells := ints [1, 7, 11, 13, 17, 19, 23, 29]) rfl rfl rfl) ?_
 refine eV (eStA rfl rfl rfl rfl (by rfl) (by rfl) (by rfl) ?_)
 exact tr_ret ⟨trivial, _, _, (.cell rfl (cellA rfl) .nil), ⟨rfl, rfl⟩, CSub.nil _, trivial⟩
theorem num_least_ent : Enters Try.prog 62 := enters_of Try.func62 (by kernel_rfl) (by kernel_rfl)
theorem num_least (n : Int) (hn2 : 2 ≤ n) (hn9 : n ≤ 256) :
  Pure Try.prog 62 #[.int .i64 n] [] (isV (.int .i64 (leastN n.toNat : Nat))) := by
 have hnn : ((n.toNat : Nat) : Int) = n := by omega
 refine pure_of (args := [.int .i64 n]) 46 Try.func62 rfl rfl rfl num_least_ent trivial (fun w0 => ?_)
 refine tS ?_
 refine tR fun _ _ _ => ?_
 refine pV ?_
 refine tr_scope ?_
 refine tS ?_
 refine tS ?_
 refine tR fun _ _ _ => ?_
 refine eV (eLit3I rfl rfl rfl rfl rfl rfl (fun A1 => ?_))
 refine sV (rLen rfl rfl) ?_
 refine pV ?_
 refine tB ?_
 refine tr_loop1 (fun (k : Int) => [(12, .int .i64 k), (10, .slice A1 3 3), (11, .int .i64 3), (0, .int .i64 n)]) (fun (k : Int) => [ow A1 3 3 (ints [2, 3, 5])]) (fun (k : Int) => (0 ≤ k ∧ k ≤ 3) ∧ ∀ z : Nat, (z : Int) < k → n % ([2, 3, 5] : List Int).getD z 0 ≠ 0) (fun (k : Int) => (3 - k).toNat) (0) ⟨rfl, rfl, rfl, rfl, trivial⟩ (by first | exact cs _ _ | exact CSub.refl _) (⟨⟨by omega, by omega⟩, fun z hz => by omega⟩) (fun k hI => ?_)
 obtain ⟨⟨hk0, hk1⟩, hall⟩ := hI
 refine tS ?_
 refine tR fun _ _ _ => ?_
 refine pV ?_
 refine tS ?_
 refine tC rfl (fun h2 => ?_) (fun h2 => ?_)
 ·try simp only [zbA] at h2
  refine tK ?_
  refine tS ?_
  refine tB ?_
  refine tS ?_
  refine tR fun _ _ _ => ?_
  refine sV (rIdxI rfl rfl rfl (by omega) (by omega) (by simp; omega)) ?_
  refine sV (rLdI rfl rfl (by simp; omega)) ?_
  refine pV ?_
  refine tS ?_
  have hD : (k = 0 ∧ ([2, 3, 5] : List Int).getD k.toNat 0 = 2) ∨ (k = 1 ∧ ([2, 3, 5] : List Int).getD k.toNat 0 = 3) ∨ (k = 2 ∧ ([2, 3, 5] : List Int).getD k.toNat 0 = 5) := by
   have h3 : k = 0 ∨ k = 1 ∨ k = 2 := by omega
   rcases h3 with rfl | rfl | rfl <;> simp
  generalize ([2, 3, 5] : List Int).getD k.toNat 0 = D at hD ⊢
  refine tR fun _ _ _ => ?_
  iterate 2 refine pV ?_
  refine sV (rRem rfl rfl rfl (by omega) (by omega)) ?_
  refine pV ?_
  refine tC rfl (fun h4 => ?_) (fun h4 => ?_)
  ·try simp only [zbA] at h4
   refine tS ?_
   refine tR fun _ _ _ => ?_
   iterate 2 refine pV ?_
   have hdv : D.toNat ∣ n.toNat := dvd_of (by omega) (by rw [hnn]; exact h4)
   have hls : LeastD n.toNat D.toNat := by
    rcases hD with ⟨rfl, rfl⟩ | ⟨rfl, rfl⟩ | ⟨rfl, rfl⟩
    ·exact least_low (by decide) hdv fun u h1 h2 => by omega
    ·refine least_low (by decide) hdv fun u h1 h2 h3 => ?_
     have q0 := hall 0 (by omega)
     simp at q0
     have := mod_of h3
     have : u = 2 := by omega
     subst this
     omega
    ·refine least_low (by decide) hdv fun u h1 h2 h3 => ?_
     have q0 := hall 0 (by omega)
     have q1 := hall 1 (by omega)
     simp at q0 q1
     have := mod_of h3
     have : u = 2 ∨ u = 3 ∨ u = 4 := by omega
     rcases this with rfl | rfl | rfl <;> omega
   exact tr_ret ⟨trivial, _, _, rfl, ⟨by rw [leastN_eq hls, show ((D.toNat : Nat) : Int) = D by omega], rfl⟩, CSub.nil _, trivial⟩
  ·try simp only [zbA] at h4
   refine tK ?_
   refine tR fun _ _ _ => ?_
   refine sV (rAdd rfl rfl rfl (by omega) (by omega)) ?_
   refine pV ?_
   refine ⟨k + 1, ⟨rfl, rfl, rfl, rfl, trivial⟩, by first | exact cs _ _ | exact CSub.refl _, ?_⟩
   refine ⟨⟨⟨by omega, by omega⟩, fun z hz => ?_⟩, by omega⟩
   by_cases e : (z : Int) < k
   ·exact hall z e
   ·rcases hD with ⟨rfl, rfl⟩ | ⟨rfl, rfl⟩ | ⟨rfl, rfl⟩
    ·rw [show z = 0 by omega]; exact h4
    ·rw [show z = 1 by omega]; exact h4
    ·rw [show z = 2 by omega]; exact h4
 ·try simp only [zbA] at h2
  refine tE ?_
  refine tS ?_
  have h235 : No235 n.toNat := by
   have q0 := hall 0 (by omega)
   have q1 := hall 1 (by omega)
   have q2 := hall 2 (by omega)
   simp at q0 q1 q2
   unfold No235
   rw [hnn]
   omega
  refine tR fun _ _ _ => ?_
  iterate 2 refine pV ?_
  refine tS ?_
  refine tr_label ?_
  refine tS ?_
  refine tS ?_
  refine tR fun _ _ _ => ?_
  refine pV ?_
  refine tB ?_
  refine tr_loop1 (fun (bs : Int) => [(6, .int .i64 bs), (5, .int .i64 n), (0, .int .i64 n)]) (fun (bs : Int) => []) (fun (bs : Int) => bs = 0) (fun (bs : Int) => 0) (0) ⟨rfl, rfl, rfl, trivial⟩ (by exact CSub.nil _) (rfl) (fun bs hI => ?_)
  subst hI
  refine tS ?_
  refine tB ?_
  refine tS ?_
  refine tR fun _ _ _ => ?_
  refine eV (eCallV rfl rfl rfl (num_wheel) trivial ?_)
  refine pV ?_
  refine tB ?_
  refine tr_loop1 (fun (i : Int) => [(26, .int .i64 i), (25, .agg (ints [1, 7, 11, 13, 17, 19, 23, 29]).toArray), (6, .int .i64 0), (5, .int .i64 n), (0, .int .i64 n)]) (fun (i : Int) => []) (fun (i : Int) => (0 ≤ i ∧ i ≤ 4) ∧ (2 ≤ i → n % 7 ≠ 0) ∧ (3 ≤ i → n % 11 ≠ 0) ∧ (4 ≤ i → n % 13 ≠ 0)) (fun (i : Int) => (4 - i).toNat) (0) ⟨rfl, rfl, rfl, rfl, rfl, trivial⟩ (by exact CSub.nil _) (⟨⟨by omega, by omega⟩, fun h => by omega, fun h => by omega, fun h => by omega⟩) (fun i hI => ?_)
  obtain ⟨⟨hi0, hi1⟩, g7, g11, g13⟩ := hI
  refine tS ?_
  refine tR fun _ _ _ => ?_
  refine pV ?_
  refine tS ?_
  refine tC rfl (fun h11 => ?_) (fun h11 => ?_)
  ·try simp only [zbA] at h11
   refine tK ?_
   refine tS ?_
   refine tB ?_
   refine tS ?_
   refine tR fun _ _ _ => ?_
   refine sV (rIndexA rfl rfl rfl rfl (by omega) (by omega)) ?_
   refine pV ?_
   refine tS ?_
   have hW : (i = 0 ∧ ([1, 7, 11, 13, 17, 19, 23, 29] : List Int).getD i.toNat 0 = 1) ∨ (i = 1 ∧ ([1, 7, 11, 13, 17, 19, 23, 29] : List Int).getD i.toNat 0 = 7) ∨ (i = 2 ∧ ([1, 7, 11, 13, 17, 19, 23, 29] : List Int).getD i.toNat 0 = 11) ∨ (i = 3 ∧ ([1, 7, 11, 13, 17, 19, 23, 29] : List Int).getD i.toNat 0 = 13) ∨ (i = 4 ∧ ([1, 7, 11, 13, 17, 19, 23, 29] : List Int).getD i.toNat 0 = 17) := by
    have h3 : i = 0 ∨ i = 1 ∨ i = 2 ∨ i = 3 ∨ i = 4 := by omega
    rcases h3 with rfl | rfl | rfl | rfl | rfl <;> simp
   generalize ([1, 7, 11, 13, 17, 19, 23, 29] : List Int).getD i.toNat 0 = W at hW ⊢
   refine tR fun _ _ _ => ?_
   iterate 2 refine pV ?_
   refine sV (rAdd rfl rfl rfl (by omega) (by omega)) ?_
   refine pV ?_
   rw [show (0 : Int) + W = W by omega]
   refine tS ?_
   refine tS ?_
   refine tR fun _ _ _ => ?_
   iterate 2 refine pV ?_
   refine tC rfl (fun h14 => ?_) (fun h14 => ?_)
   ·try simp only [zbA] at h14
    refine tE ?_
    refine tR fun _ _ _ => ?_
    refine sV (rAdd rfl rfl rfl (by omega) (by omega)) ?_
    refine pV ?_
    refine ⟨i + 1, ⟨rfl, rfl, rfl, rfl, rfl, trivial⟩, by first | exact cs _ _ | exact CSub.refl _, ?_⟩
    exact ⟨⟨⟨by omega, by omega⟩, fun h => by omega, fun h => by omega, fun h => by omega⟩, by omega⟩
   ·try simp only [zbA] at h14
    refine tK ?_
    refine tS ?_
    refine tS ?_
    have hsq : (i = 0 ∧ W * W = 1) ∨ (i = 1 ∧ W * W = 49) ∨ (i = 2 ∧ W * W = 121) ∨ (i = 3 ∧ W * W = 169) ∨ (i = 4 ∧ W * W = 289) := by
     rcases hW with ⟨_, rfl⟩ | ⟨_, rfl⟩ | ⟨_, rfl⟩ | ⟨_, rfl⟩ | ⟨_, rfl⟩ <;> omega
    refine tR fun _ _ _ => ?_
    iterate 2 refine pV ?_
    refine sV (rMul rfl rfl rfl (by omega) (by omega)) ?_
    iterate 2 refine pV ?_
    refine tC rfl (fun h15 => ?_) (fun h15 => ?_)
    ·try simp only [zbA] at h15
     refine tE ?_
     refine tS ?_
     refine tR fun _ _ _ => ?_
     iterate 2 refine pV ?_
     have hWn : W = 7 ∨ (W = 11 ∧ n % 7 ≠ 0) ∨ (W = 13 ∧ n % 7 ≠ 0 ∧ n % 11 ≠ 0) ∨ (W = 17 ∧ n % 7 ≠ 0 ∧ n % 11 ≠ 0 ∧ n % 13 ≠ 0) := by omega
     have hno := no_16 (n := n.toNat) (d := W.toNat) h235 (by rw [hnn]; omega)
     have hWW : ((W.toNat * W.toNat : Nat) : Int) = W * W := by rw [Int.natCast_mul, Int.toNat_of_nonneg (by omega)]
     first
      | (have hls : LeastD n.toNat W.toNat := least_low (by omega) (dvd_of (by omega) (by rw [hnn]; exact h16)) hno; exact tr_ret ⟨trivial, _, _, rfl, ⟨by rw [leastN_eq hls, show ((W.toNat : Nat) : Int) = W by omega], rfl⟩, CSub.nil _, trivial⟩)
      | (have hls : LeastD n.toNat n.toNat := least_self (d := W.toNat) (by omega) (by omega) hno; exact tr_ret ⟨trivial, _, _, rfl, ⟨by rw [leastN_eq hls, hnn], rfl⟩, CSub.nil _, trivial⟩)
    ·try simp only [zbA] at h15
     refine tK ?_
     refine tS ?_
     refine tR fun _ _ _ => ?_
     iterate 2 refine pV ?_
     refine sV (rRem rfl rfl rfl (by omega) (by omega)) ?_
     refine pV ?_
     refine tC rfl (fun h16 => ?_) (fun h16 => ?_)
     ·try simp only [zbA] at h16
      refine tS ?_
      refine tR fun _ _ _ => ?_
      iterate 2 refine pV ?_
      refine tE ?_
      refine tS ?_
      refine tR fun _ _ _ => ?_
      iterate 2 refine pV ?_
      have hWn : W = 7 ∨ (W = 11 ∧ n % 7 ≠ 0) ∨ (W = 13 ∧ n % 7 ≠ 0 ∧ n % 11 ≠ 0) ∨ (W = 17 ∧ n % 7 ≠ 0 ∧ n % 11 ≠ 0 ∧ n % 13 ≠ 0) := by omega
      have hno := no_16 (n := n.toNat) (d := W.toNat) h235 (by rw [hnn]; omega)
      have hWW : ((W.toNat * W.toNat : Nat) : Int) = W * W := by rw [Int.natCast_mul, Int.toNat_of_nonneg (by omega)]
      first
       | (have hls : LeastD n.toNat W.toNat := least_low (by omega) (dvd_of (by omega) (by rw [hnn]; exact h16)) hno; exact tr_ret ⟨trivial, _, _, rfl, ⟨by rw [leastN_eq hls, show ((W.toNat : Nat) : Int) = W by omega], rfl⟩, CSub.nil _, trivial⟩)
       | (have hls : LeastD n.toNat n.toNat := least_self (d := W.toNat) (by omega) (by omega) hno; exact tr_ret ⟨trivial, _, _, rfl, ⟨by rw [leastN_eq hls, hnn], rfl⟩, CSub.nil _, trivial⟩)
     ·try simp only [zbA] at h16
      refine tK ?_
      refine tR fun _ _ _ => ?_
      refine sV (rAdd rfl rfl rfl (by omega) (by omega)) ?_
      refine pV ?_
      refine ⟨i + 1, ⟨rfl, rfl, rfl, rfl, rfl, trivial⟩, by first | exact cs _ _ | exact CSub.refl _, ?_⟩
      rcases hW with ⟨rfl, rfl⟩ | ⟨rfl, rfl⟩ | ⟨rfl, rfl⟩ | ⟨rfl, rfl⟩ | ⟨rfl, rfl⟩
      ·omega
      ·exact ⟨⟨⟨by omega, by omega⟩, fun _ => h16, fun h => by omega, fun h => by omega⟩, by omega⟩
      ·exact ⟨⟨⟨by omega, by omega⟩, fun _ => g7 (by omega), fun _ => h16, fun h => by omega⟩, by omega⟩
      ·exact ⟨⟨⟨by omega, by omega⟩, fun _ => g7 (by omega), fun _ => g11 (by omega), fun _ => h16⟩, by omega⟩
      ·omega
  ·try simp only [zbA] at h11
   omega --done
theorem num_FactorX_ent : Enters Try.prog 30 := enters_of Try.func30 (by kernel_rfl) (by kernel_rfl)
theorem num_FactorX (n : Int) (hn1 : 1 ≤ n) (hn9 : n ≤ 256) :
  Pure Try.prog 30 #[.int .i64 n] [] (one (fun v ch => ∃ B c ps, v = .tuple #[.slice B ps.length c, .int .i64 0] ∧ ch = ow2 B 74 c (pws ps) ∧ PrF n.toNat ps ∧ ps.length ≤ 256)) := by
 have hnn : ((n.toNat : Nat) : Int) = n := by omega
 refine pure_of (args := [.int .i64 n]) 32 Try.func30 rfl rfl rfl num_FactorX_ent trivial (fun w0 => ?_)
 refine tS ?_
 refine tR fun _ _ _ => ?_
 iterate 2 refine pV ?_
 refine tS ?_
 refine tS ?_
 refine tR fun _ _ _ => ?_
 refine pV ?_
 refine eV (eCallV rfl rfl rfl (num_in n 1) ⟨rfl, rfl, trivial⟩ ?_)
 refine sV (rNotB rfl rfl) ?_
 refine tC rfl (fun h1 => ?_) (fun h1 => ?_)
 ·try simp only [zbA] at h1
  simp at h1
  omega --done
 ·try simp only [zbA] at h1
  refine tK ?_
  refine tS ?_
  refine tR fun _ _ _ => ?_
  refine pV ?_
  refine tS ?_
  refine tB ?_
  refine tr_nil2 74 ?_
  refine tr_loop4 (fun (t : Int) (B : Option Addr) (cb : Nat) (ps : List (Int × Int)) => [(0, .int .i64 t), (4, .slice B ps.length cb), (2, .slice none 0 0), (3, .int .i64 0)]) (fun (t : Int) (B : Option Addr) (cb : Nat) (ps : List (Int × Int)) => [ow2 B 74 cb (pws ps)]) (fun (t : Int) (B : Option Addr) (cb : Nat) (ps : List (Int × Int)) => (1 ≤ t ∧ t ≤ n) ∧ FacJ n.toNat t.toNat ps ∧ ps.length + t ≤ 256) (fun (t : Int) (B : Option Addr) (cb : Nat) (ps : List (Int × Int)) => t.toNat) (n) (none) (0) ([]) ⟨rfl, rfl, rfl, rfl, trivial⟩ (by first | exact cs _ _ | exact CSub.refl _) (⟨⟨by omega, by omega⟩, FacJ.start _, by simp; omega⟩) (fun t B cb ps hI => ?_)
  obtain ⟨⟨ht1, ht9⟩, hJ, hpl⟩ := hI
  refine tS ?_
  refine tS ?_
  refine tR fun _ _ _ => ?_
  iterate 2 refine pV ?_
  refine tC rfl (fun h4 => ?_) (fun h4 => ?_)
  ·try simp only [zbA] at h4
   refine tK ?_
   refine tB ?_
   refine tS ?_
   refine tR fun _ _ _ => ?_
   refine pV ?_
   refine eV (eCallV rfl rfl rfl (num_least t (by omega) (by omega)) ⟨rfl, trivial⟩ ?_)
   refine pV ?_
   refine tS ?_
   have hlt := leastN_of (n := t.toNat) (by omega)
   have hl2 := hlt.two
   have hld := Nat.le_of_dvd (by omega) hlt.dvd
   have htt : ((t.toNat : Nat) : Int) = t := by omega
   refine tR fun _ _ _ => ?_
   refine pV ?_
   refine sV (rBuild rfl rfl) ?_
   refine eV (eAlloc rfl rfl rfl (fun p6 => ?_))
   refine eV (eStS rfl rfl rfl rfl rfl rfl ?_)
   refine tS ?_
   refine tB ?_
   refine tr_loop2 (fun (u : Int) (e : Int) => [(0, .int .i64 u), (4, .slice B ps.length cb), (5, .int .i64 ((leastN t.toNat : Nat) : Int)), (2, .slice none 0 0), (3, .int .i64 0), (6, .pointer (some p6))]) (fun (u : Int) (e : Int) => [blk p6 74 [.int .i64 ((leastN t.toNat : Nat) : Int), .int .i64 e], ow2 B 74 cb (pws ps)]) (fun (u : Int) (e : Int) => (1 ≤ u ∧ u ≤ t) ∧ (0 ≤ e ∧ e + u ≤ t) ∧ u.toNat * leastN t.toNat ^ e.toNat = t.toNat) (fun (u : Int) (e : Int) => u.toNat) (t) (0) ⟨rfl, rfl, rfl, rfl, rfl, rfl, trivial⟩ (by first | exact cs _ _ | exact CSub.refl _) (⟨⟨by omega, by omega⟩, ⟨by omega, by omega⟩, by rw [show Int.toNat 0 = 0 from rfl, Nat.pow_zero, Nat.mul_one]⟩) (fun u e hI => ?_)
   obtain ⟨⟨hu1, hu9⟩, ⟨he0, he9⟩, hue⟩ := hI
   refine tS ?_
   refine tS ?_
   refine tR fun _ _ _ => ?_
   iterate 2 refine pV ?_
   refine sV (rRem rfl rfl rfl (by omega) (by omega)) ?_
   refine pV ?_
   refine tC rfl (fun h7 => ?_) (fun h7 => ?_)
   ·try simp only [zbA] at h7
    refine tK ?_
    refine tB ?_
    refine tS ?_
    refine tR fun _ _ _ => ?_
    refine sV (rFld rfl rfl) ?_
    refine sV (rLdF rfl rfl rfl) ?_
    refine sV (rAdd rfl rfl rfl (by omega) (by omega)) ?_
    refine sV (rFld rfl rfl) ?_
    refine eV (eStF rfl rfl rfl rfl rfl (by simp) rfl rfl ?_)
    refine tR fun _ _ _ => ?_
    iterate 2 refine pV ?_
    refine sV (rQuo rfl rfl rfl (by omega) (by omega)) ?_
    refine pV ?_
    refine ⟨u / ((leastN t.toNat : Nat) : Int), e + 1, ⟨rfl, rfl, rfl, rfl, rfl, rfl, trivial⟩, by first | exact cs _ _ | exact CSub.refl _, ?_⟩
    have hdu : leastN t.toNat ∣ u.toNat := by
     have := dvd_of (n := u.toNat) (d := ((leastN t.toNat : Nat) : Int)) (by omega) (by rw [show ((u.toNat : Nat) : Int) = u by omega]; exact h7)
     rwa [Int.toNat_natCast] at this
    obtain ⟨w, hw⟩ := hdu
    have hq : u / ((leastN t.toNat : Nat) : Int) = (w : Int) := by
     have : u = ((leastN t.toNat : Nat) : Int) * (w : Int) := by rw [← Int.natCast_mul, ← hw]; omega
     rw [this]; exact Int.mul_ediv_cancel_left _ (by omega)
    rw [hq]
    have hw1 : 1 ≤ w := Nat.one_le_iff_ne_zero.2 fun e0 => by rw [e0, Nat.mul_zero] at hw; omega
    have hw2 : 2 * w ≤ u.toNat := by rw [hw]; exact Nat.mul_le_mul_right _ hl2
    refine ⟨⟨⟨by omega, by omega⟩, ⟨by omega, by omega⟩, ?_⟩, by omega⟩
    rw [show (e + 1).toNat = e.toNat + 1 by omega, Int.toNat_natCast, Nat.pow_succ]
    refine Eq.trans ?_ hue
    rw [hw, Nat.mul_comm (leastN t.toNat ^ e.toNat), ← Nat.mul_assoc, Nat.mul_comm w]
   ·try simp only [zbA] at h7
    refine tE ?_
    have hnd : ¬ leastN t.toNat ∣ u.toNat := fun hd => h7 (by have := mod_of hd; rw [show ((u.toNat : Nat) : Int) = u by omega] at this; exact this)
    have he1 : 1 ≤ e.toNat := Nat.one_le_iff_ne_zero.2 fun e0 => hnd (by rw [e0, Nat.pow_zero, Nat.mul_one] at hue; rw [hue]; exact hlt.dvd)
    have hfn := hJ.next (by omega) hue he1 hnd
    refine tR fun _ _ _ => ?_
    refine pV ?_
    refine sV (rLdS rfl rfl rfl) ?_
    refine eV (eLitS rfl rfl rfl rfl (fun p10 => ?_))
    refine eV (eApp2 rfl rfl rfl rfl rfl (by first | rfl | simp | omega) rfl (by first | (simp; done) | (simp; omega)) (by first | (simp; done) | (simp; omega)) (fun A10a c10a => ?_))
    refine pV ?_
    rw [show pws ps ++ [((Value.int .i64 ((leastN t.toNat : Nat) : Int) : Value), (Value.int .i64 e : Value))] = pws (ps ++ [(((leastN t.toNat : Nat) : Int), e)]) by rw [pws_app]; rfl, pws_length]
    refine ⟨u, A10a, c10a, ps ++ [(((leastN t.toNat : Nat) : Int), e)], ⟨rfl, rfl, rfl, rfl, trivial⟩, by first | exact cs _ _ | exact CSub.refl _, ?_⟩
    rw [show ((e.toNat : Nat) : Int) = e by omega] at hfn
    have h3 : u.toNat * 2 ≤ u.toNat * leastN t.toNat ^ e.toNat := Nat.mul_le_mul_left _ (two_le_pow hl2 he1)
    refine ⟨⟨⟨by omega, by omega⟩, hfn, ?_⟩, by omega⟩
    simp only [List.length_append, List.length_singleton]
    omega
  ·try simp only [zbA] at h4
   refine tE ?_
   refine tS ?_
   refine tR fun _ _ _ => ?_
   iterate 3 refine pV ?_
   have ht : t.toNat = 1 := by omega
   rw [ht] at hJ
   exact tr_ret ⟨trivial, _, _, rfl, ⟨_, rfl, B, cb, ps, rfl, rfl, hJ.done, by omega⟩, cs _ _, trivial, trivial⟩
theorem fac_IrrX_ent : Enters Try.prog 12 := enters_of Try.func12 (by kernel_rfl) (by kernel_rfl)
theorem fac_IrrX (g : GfM) {p m : Int} {mod : List Int} [hF : IsF p m mod] (hg : GOk g p m mod) (A : Option Addr) (n c : Nat) (a : List Int) (hn : n = a.length) (ha9 : a.length ≤ 17592186044415) (he : facE (Po.len (pol a : Po (El p m mod))) = 0) (N : Nat) (hN : Po.len (pol a : Po (El p m mod)) = N + 1) (h1 : 1 ≤ N) (h9N : N ≤ 256) :
  Pure Try.prog 12 #[.pointer (some g.p), .slice A n c] [gfR g, ro A (ints a)] (isV (.tuple #[.bool (irB (pol a : Po (El p m mod))), .int .i64 0])) := by
 have h1N := h1
 have hil := il_length (pol a : Po (El p m mod))
 have hle := facE_ok he
 have hm0 := ne_of_len hle.1
 have hil0 := il_length (Po.rem Po.X (pol a : Po (El p m mod)))
 have hlr0 := Po.rem_len (Po.X : Po (El p m mod)) hm0
 refine pure_of (args := [.pointer (some g.p), .slice A n c]) 85 Try.func12 rfl rfl rfl fac_IrrX_ent ⟨id, id, trivial⟩ (fun w0 => ?_)
 refine tS ?_
 refine tR fun _ _ _ => ?_
 iterate 2 refine pV ?_
 refine tS ?_
 refine tR fun _ _ _ => ?_
 iterate 2 refine pV ?_
 refine eV (eCall1 rfl rfl rfl (fac_enter g hg A n c a hn ha9 he) ⟨rfl, rfl, trivial⟩ ?_)
 rintro _ _ ⟨B1, c1, rfl, hc1, rfl⟩
 iterate 5 refine pV ?_
 refine tS ?_
 refine tS ?_
 refine tR fun _ _ _ => ?_
 iterate 2 refine pV ?_
 refine tC rfl (fun h2 => ?_) (fun h2 => ?_)
 ·try simp only [zbA] at h2
  first | exact absurd trivial h2 | exact absurd rfl h2 | omega | (exact absurd h2 (by simp)) --done
 ·try simp only [zbA] at h2
  refine tK ?_
  refine tS ?_
  refine tR fun _ _ _ => ?_
  refine pV ?_
  refine sV (rLen rfl rfl) ?_
  refine sV (rSub rfl rfl rfl (by omega) (by omega)) ?_
  refine pV ?_
  rw [show ((il (pol a : Po (El p m mod))).length : Int) - 1 = (N : Int) by omega]
  refine tS ?_
  refine tS ?_
  refine tR fun _ _ _ => ?_
  iterate 2 refine pV ?_
  refine tC rfl (fun h5 => ?_) (fun h5 => ?_)
  ·try simp only [zbA] at h5
   omega --done
  ·try simp only [zbA] at h5
   refine tK ?_
   refine tS ?_
   refine tR fun _ _ _ => ?_
   refine pV ?_
   refine eV (eCall1 rfl rfl rfl (num_FactorX (N : Int) (by omega) (by omega)) ⟨rfl, trivial⟩ ?_)
   rintro _ _ ⟨B7, c7, ps, rfl, rfl, hprf, hpl⟩
   iterate 5 refine pV ?_
   refine tS ?_
   refine tR fun _ _ _ => ?_
   refine eV (eLit2I rfl rfl rfl rfl rfl (fun A8 => ?_))
   refine pV ?_
   refine tS ?_
   have hps : PrL N ps := by have := hprf.prL; rwa [Int.toNat_natCast] at this
   refine tR fun _ _ _ => ?_
   iterate 3 refine pV ?_
   refine eV (eCall2 rfl rfl rfl (poly_DivMod g hg A8 _ 2 [0, 1] rfl (by simp) B1 _ c1 (il (pol a : Po (El p m mod))) rfl (by omega) (by rw [pol_il]; exact hm0)) ⟨rfl, rfl, rfl, trivial⟩ ?_)
   rintro _ _ _ ⟨Q9, q9, B9, c9, rfl, rfl, rfl⟩
   iterate 7 refine pV ?_
   rw [pol_il, pol_X01]
   refine tS ?_
   refine tR fun _ _ _ => ?_
   iterate 2 refine pV ?_
   refine tS ?_
   refine tS ?_
   refine tr_chunks [ro B9 (ints (il (Po.rem Po.X (pol a : Po (El p m mod))))), ro B9 (ints (il (Po.rem Po.X (pol a : Po (El p m mod))))), ow A8 3 2 (ints [0, 1]), ow2 B7 74 c7 (pws ps), ow B1 3 c1 (ints (il (pol a : Po (El p m mod)))), gfR g] ((cs _ [ow B9 3 c9 (ints (il (Po.rem Po.X (pol a : Po (El p m mod))))), ow A8 3 2 (ints [0, 1]), ow2 B7 74 c7 (pws ps), ow B1 3 c1 (ints (il (pol a : Po (El p m mod)))), gfR g]).trans ((ow_ro _).trans (ro_dup _))) ?_
   refine tR fun _ _ _ => ?_
   refine pV ?_
   refine tB ?_
   refine tr_loop4 (fun (i : Int) (Bh : Option Addr) (ch : Nat) (f : Po (El p m mod)) => [(13, .slice Bh (il f).length ch), (15, .slice B9 (il (Po.rem Po.X (pol a : Po (El p m mod)))).length c9), (16, .int .i64 i), (8, .int .i64 N), (11, .slice A8 2 2), (0, .pointer (some g.p)), (6, .slice B1 (il (pol a : Po (El p m mod))).length c1), (9, .slice B7 ps.length c7)]) (fun (i : Int) (Bh : Option Addr) (ch : Nat) (f : Po (El p m mod)) => [ro Bh (ints (il f)), ro B9 (ints (il (Po.rem Po.X (pol a : Po (El p m mod))))), ow A8 3 2 (ints [0, 1]), ow2 B7 74 c7 (pws ps), ow B1 3 c1 (ints (il (pol a : Po (El p m mod)))), gfR g]) (fun (i : Int) (Bh : Option Addr) (ch : Nat) (f : Po (El p m mod)) => (1 ≤ i ∧ i ≤ N + 1) ∧ f = (Po.rem (Rg.pow Po.X ((pw p m).toNat ^ (i - 1).toNat)) (pol a : Po (El p m mod))) ∧ ∀ z : Nat, z < ps.length → ((N : Int) / (ps.getD z (0, 0)).1) < i → Po.gcd (pol a : Po (El p m mod)) (xq p m mod ((N : Int) / (ps.getD z (0, 0)).1).toNat) = 1) (fun (i : Int) (Bh : Option Addr) (ch : Nat) (f : Po (El p m mod)) => (N + 1 - i).toNat) (1) (B9) (c9) ((Po.rem Po.X (pol a : Po (El p m mod)))) ⟨rfl, rfl, rfl, rfl, rfl, rfl, rfl, rfl, trivial⟩ (by first | exact cs _ _ | exact CSub.refl _) (⟨⟨by omega, by omega⟩, by rw [show ((1 : Int) - 1).toNat = 0 from rfl, Nat.pow_zero, show Rg.pow (Po.X : Po (El p m mod)) 1 = Po.X from Rg.one_mul _], fun z hz hlt => absurd hlt (by have := nq_pos hps h1N hz; omega)⟩) (fun i Bh ch f hI => ?_)
   obtain ⟨⟨hi0, hi1⟩, rfl, hall⟩ := hI
   refine tS ?_
   refine tS ?_
   refine tR fun _ _ _ => ?_
   iterate 3 refine pV ?_
   refine tC rfl (fun h12 => ?_) (fun h12 => ?_)
   ·try simp only [zbA] at h12
    refine tK ?_
    refine tS ?_
    refine tB ?_
    refine tS ?_
    have hilh := il_length (Po.rem (Rg.pow Po.X ((pw p m).toNat ^ (i - 1).toNat)) (pol a : Po (El p m mod)))
    have hlrh := Po.rem_len (Rg.pow Po.X ((pw p m).toNat ^ (i - 1).toNat)) hm0
    have hiln := il_length (Po.rem (Rg.pow Po.X ((pw p m).toNat ^ i.toNat)) (pol a : Po (El p m mod)))
    have hlrn := Po.rem_len (Rg.pow Po.X ((pw p m).toNat ^ i.toNat)) hm0
    refine tR fun _ _ _ => ?_
    iterate 3 refine pV ?_
    refine eV (eCall1 rfl rfl rfl (fac_frobenius g hg Bh _ ch (il (Po.rem (Rg.pow Po.X ((pw p m).toNat ^ (i - 1).toNat)) (pol a : Po (El p m mod)))) rfl (by omega) B1 _ c1 (il (pol a : Po (El p m mod))) rfl (by omega) (by rw [pol_il]; exact he)) ⟨rfl, rfl, rfl, trivial⟩ ?_)
    rintro _ _ ⟨B14, c14, rfl, rfl⟩
    refine pV ?_
    rw [pol_il, pol_il, rem_next hm0, show (i - 1).toNat + 1 = i.toNat by omega]
    refine tS ?_
    refine tR fun _ _ _ => ?_
    refine pV ?_
    refine sV (rLenS rfl rfl) ?_
    refine pV ?_
    refine tB ?_
    refine tr_loop1 (fun (j : Int) => [(59, .int .i64 j), (57, .slice B7 ps.length c7), (58, .int .i64 ps.length), (0, .pointer (some g.p)), (6, .slice B1 (il (pol a : Po (El p m mod))).length c1), (8, .int .i64 N), (9, .slice B7 ps.length c7), (11, .slice A8 2 2), (13, .slice B14 (il (Po.rem (Rg.pow Po.X ((pw p m).toNat ^ i.toNat)) (pol a : Po (El p m mod)))).length c14), (15, .slice B9 (il (Po.rem Po.X (pol a : Po (El p m mod)))).length c9), (16, .int .i64 i), (48, .int .i64 i), (49, .int .i64 N), (56, .slice B14 (il (Po.rem (Rg.pow Po.X ((pw p m).toNat ^ i.toNat)) (pol a : Po (El p m mod)))).length c14)]) (fun (j : Int) => [ow B14 3 c14 (ints (il (Po.rem (Rg.pow Po.X ((pw p m).toNat ^ i.toNat)) (pol a : Po (El p m mod))))), ro B9 (ints (il (Po.rem Po.X (pol a : Po (El p m mod))))), ow A8 3 2 (ints [0, 1]), ow2 B7 74 c7 (pws ps), ow B1 3 c1 (ints (il (pol a : Po (El p m mod)))), gfR g]) (fun (j : Int) => (0 ≤ j ∧ j ≤ ps.length) ∧ ∀ z : Nat, (z : Int) < j → ((N : Int) / (ps.getD z (0, 0)).1) = i → Po.gcd (pol a : Po (El p m mod)) (xq p m mod i.toNat) = 1) (fun (j : Int) => (ps.length - j).toNat) (0) ⟨rfl, rfl, rfl, rfl, rfl, rfl, rfl, rfl, rfl, rfl, rfl, rfl, rfl, rfl, trivial⟩ (by first | exact cs _ _ | exact CSub.refl _) (⟨⟨by omega, by omega⟩, fun z hz => by omega⟩) (fun j hI => ?_)
    obtain ⟨⟨hj0, hj1⟩, hj⟩ := hI
    refine tS ?_
    refine tR fun _ _ _ => ?_
    refine pV ?_
    refine tS ?_
    refine tC rfl (fun h16 => ?_) (fun h16 => ?_)
    ·try simp only [zbA] at h16
     refine tK ?_
     refine tS ?_
     refine tB ?_
     refine tS ?_
     have hjl : j.toNat < ps.length := by omega
     have hat := prL_at hps hjl
     refine tR fun _ _ _ => ?_
     refine sV (rIdxT rfl rfl rfl (by omega) (by omega) (by simp; omega)) ?_
     refine sV (rLdT rfl rfl (by simp; omega)) ?_
     refine eV (eAlloc rfl rfl rfl (fun p17 => ?_))
     rw [pws_get1 ps j.toNat hjl, pws_get2 ps j.toNat hjl]
     refine eV (eStS rfl rfl rfl rfl rfl rfl ?_)
     refine tS ?_
     by_cases hs : ((N : Int) / (ps.getD j.toNat (0, 0)).1) = i
     ·refine tR fun _ _ _ => ?_
      refine pV ?_
      refine sV (rFld rfl rfl) ?_
      refine sV (rLdF rfl rfl rfl) ?_
      refine sV (rQuo rfl rfl rfl (by omega) (by omega)) ?_
      iterate 3 refine pV ?_
      refine stT rfl rfl rfl (by first | exact decide_eq_true hs | (rw [decide_eq_true hs]; rfl)) rfl rfl (rMove rfl rfl) ?_
      refine stT rfl rfl rfl (by first | exact decide_eq_true hs | (rw [decide_eq_true hs]; rfl)) rfl rfl (rMove rfl rfl) ?_
      refine stT rfl rfl rfl (by first | exact decide_eq_true hs | (rw [decide_eq_true hs]; rfl)) rfl rfl (rMove rfl rfl) ?_
      refine stT rfl rfl rfl (by first | exact decide_eq_true hs | (rw [decide_eq_true hs]; rfl)) rfl rfl (rMove rfl rfl) ?_
      refine stT rfl rfl rfl (by first | exact decide_eq_true hs | (rw [decide_eq_true hs]; rfl)) rfl rfl (rMove rfl rfl) ?_
      refine stT rfl rfl rfl (by first | exact decide_eq_true hs | (rw [decide_eq_true hs]; rfl)) rfl rfl (rMove rfl rfl) ?_
      refine efT rfl rfl rfl (by first | exact decide_eq_true hs | (rw [decide_eq_true hs]; rfl)) (eCall1 rfl rfl rfl (poly_Sub g hg B14 _ c14 (il (Po.rem (Rg.pow Po.X ((pw p m).toNat ^ i.toNat)) (pol a : Po (El p m mod)))) rfl (by omega) A8 _ 2 [0, 1] rfl (by simp)) ⟨rfl, rfl, rfl, trivial⟩ ?_)
      rintro _ _ ⟨B18, c18, rfl, rfl⟩
      have hs1 := il_length (pol (il (Po.rem (Rg.pow Po.X ((pw p m).toNat ^ i.toNat)) (pol a : Po (El p m mod)))) - pol [0, 1] : Po (El p m mod))
      have hs2 := Po.len_sub (pol (il (Po.rem (Rg.pow Po.X ((pw p m).toNat ^ i.toNat)) (pol a : Po (El p m mod))))) (pol [0, 1] : Po (El p m mod))
      have hs3 : Po.len (pol (il (Po.rem (Rg.pow Po.X ((pw p m).toNat ^ i.toNat)) (pol a : Po (El p m mod)))) : Po (El p m mod)) = Po.len (Po.rem (Rg.pow Po.X ((pw p m).toNat ^ i.toNat)) (pol a : Po (El p m mod))) := by rw [pol_il]
      have hs4 : Po.len (pol [0, 1] : Po (El p m mod)) ≤ 2 := Po.len_le (pol_sh [0, 1])
      refine efT rfl rfl rfl (by first | exact decide_eq_true hs | (rw [decide_eq_true hs]; rfl)) (eCall1 rfl rfl rfl (poly_Gcd g hg B1 _ c1 (il (pol a : Po (El p m mod))) rfl (by omega) B18 _ c18 (il (pol (il (Po.rem (Rg.pow Po.X ((pw p m).toNat ^ i.toNat)) (pol a : Po (El p m mod)))) - pol [0, 1])) rfl (by omega) (.inl (by rw [pol_il]; exact hm0))) ⟨rfl, rfl, rfl, trivial⟩ ?_)
      rintro _ _ ⟨B18a, c18a, rfl, rfl⟩
      have hs5 := il_length (Po.gcd (pol (il (pol a : Po (El p m mod)))) (pol (il (pol (il (Po.rem (Rg.pow Po.X ((pw p m).toNat ^ i.toNat)) (pol a : Po (El p m mod)))) - pol [0, 1] : Po (El p m mod)))) : Po (El p m mod))
      have hs6 := gcd_len (p := p) (m := m) (mod := mod) (f := pol (il (pol (il (Po.rem (Rg.pow Po.X ((pw p m).toNat ^ i.toNat)) (pol a : Po (El p m mod)))) - pol [0, 1] : Po (El p m mod)))) (show (pol (il (pol a : Po (El p m mod))) : Po (El p m mod)) ≠ 0 by rw [pol_il]; exact hm0)
      have hs7 : Po.len (pol (il (pol a : Po (El p m mod))) : Po (El p m mod)) = Po.len (pol a : Po (El p m mod)) := by rw [pol_il]
      refine efT rfl rfl rfl (by first | exact decide_eq_true hs | (rw [decide_eq_true hs]; rfl)) (eCallV rfl rfl rfl (poly_Degree g hg B18a _ c18a (il (Po.gcd (pol (il (pol a : Po (El p m mod)))) (pol (il (pol (il (Po.rem (Rg.pow Po.X ((pw p m).toNat ^ i.toNat)) (pol a : Po (El p m mod)))) - pol [0, 1] : Po (El p m mod)))) : Po (El p m mod))) rfl (by omega)) ⟨rfl, rfl, trivial⟩ ?_)
      refine stT rfl rfl rfl (by first | exact decide_eq_true hs | (rw [decide_eq_true hs]; rfl)) rfl rfl (rGtr rfl rfl rfl) ?_
      refine sV (rPick1 rfl rfl (by first | exact decide_eq_true hs | (rw [decide_eq_true hs]; rfl)) rfl) ?_
      refine tC rfl (fun h18 => ?_) (fun h18 => ?_)
      ·try simp only [zbA] at h18
       refine tS ?_
       refine tR fun _ _ _ => ?_
       iterate 2 refine pV ?_
       rcases Classical.em (((N : Int) / (ps.getD j.toNat (0, 0)).1) = i) with hs3 | hs3
       ·first
         | exact absurd hs3 hs
         | (have hno : irB (pol a : Po (El p m mod)) = false := irr_no hN h1N hps hjl (by rw [hs3]; intro h1; rw [pol_il, pol_il, pol_il, pol_il, pol_X01, gcd_sub_xq hm0, h1, Po.len_one] at h18; omega); exact tr_ret ⟨trivial, _, _, rfl, ⟨by rw [hno], rfl⟩, CSub.nil _, trivial⟩)
       ·exfalso; first | exact hs3 hs | (simp at h18; done) | exact absurd h18 (by simp)
      ·try simp only [zbA] at h18
       refine tK ?_
       refine tR fun _ _ _ => ?_
       refine sV (rAdd rfl rfl rfl (by omega) (by omega)) ?_
       refine pV ?_
       refine ⟨j + 1, ⟨rfl, rfl, rfl, rfl, rfl, rfl, rfl, rfl, rfl, rfl, rfl, rfl, rfl, rfl, trivial⟩, by first | exact cs _ _ | exact CSub.refl _, ?_⟩
       refine ⟨⟨⟨by omega, by omega⟩, fun z hz hq => ?_⟩, by omega⟩
       by_cases hzj : (z : Int) < j
       ·exact hj z hzj hq
       ·have hg1 : Po.len (Po.gcd (pol a : Po (El p m mod)) (xq p m mod i.toNat)) ≤ 1 := by
         rw [pol_il, pol_il, pol_il, pol_il, pol_X01, gcd_sub_xq hm0] at h18
         omega
        exact Po.gcd_one_of hm0 hg1
     ·refine tR fun _ _ _ => ?_
      refine pV ?_
      refine sV (rFld rfl rfl) ?_
      refine sV (rLdF rfl rfl rfl) ?_
      refine sV (rQuo rfl rfl rfl (by omega) (by omega)) ?_
      iterate 3 refine pV ?_
      refine skF rfl rfl (by first | exact decide_eq_false hs | (rw [decide_eq_false hs]; rfl)) rfl rfl ?_
      refine skF rfl rfl (by first | exact decide_eq_false hs | (rw [decide_eq_false hs]; rfl)) rfl rfl ?_
      refine skF rfl rfl (by first | exact decide_eq_false hs | (rw [decide_eq_false hs]; rfl)) rfl rfl ?_
      refine skF rfl rfl (by first | exact decide_eq_false hs | (rw [decide_eq_false hs]; rfl)) rfl rfl ?_
      refine skF rfl rfl (by first | exact decide_eq_false hs | (rw [decide_eq_false hs]; rfl)) rfl rfl ?_
      refine skF rfl rfl (by first | exact decide_eq_false hs | (rw [decide_eq_false hs]; rfl)) rfl rfl ?_
      refine skF rfl rfl (by first | exact decide_eq_false hs | (rw [decide_eq_false hs]; rfl)) rfl rfl ?_
      have hs1 := il_length (pol (il (Po.rem (Rg.pow Po.X ((pw p m).toNat ^ i.toNat)) (pol a : Po (El p m mod)))) - pol [0, 1] : Po (El p m mod))
      have hs2 := Po.len_sub (pol (il (Po.rem (Rg.pow Po.X ((pw p m).toNat ^ i.toNat)) (pol a : Po (El p m mod))))) (pol [0, 1] : Po (El p m mod))
      have hs3 : Po.len (pol (il (Po.rem (Rg.pow Po.X ((pw p m).toNat ^ i.toNat)) (pol a : Po (El p m mod)))) : Po (El p m mod)) = Po.len (Po.rem (Rg.pow Po.X ((pw p m).toNat ^ i.toNat)) (pol a : Po (El p m mod))) := by rw [pol_il]
      have hs4 : Po.len (pol [0, 1] : Po (El p m mod)) ≤ 2 := Po.len_le (pol_sh [0, 1])
      refine skF rfl rfl (by first | exact decide_eq_false hs | (rw [decide_eq_false hs]; rfl)) rfl rfl ?_
      have hs5 := il_length (Po.gcd (pol (il (pol a : Po (El p m mod)))) (pol (il (pol (il (Po.rem (Rg.pow Po.X ((pw p m).toNat ^ i.toNat)) (pol a : Po (El p m mod)))) - pol [0, 1] : Po (El p m mod)))) : Po (El p m mod))
      have hs6 := gcd_len (p := p) (m := m) (mod := mod) (f := pol (il (pol (il (Po.rem (Rg.pow Po.X ((pw p m).toNat ^ i.toNat)) (pol a : Po (El p m mod)))) - pol [0, 1] : Po (El p m mod)))) (show (pol (il (pol a : Po (El p m mod))) : Po (El p m mod)) ≠ 0 by rw [pol_il]; exact hm0)
      have hs7 : Po.len (pol (il (pol a : Po (El p m mod))) : Po (El p m mod)) = Po.len (pol a : Po (El p m mod)) := by rw [pol_il]
      refine skF rfl rfl (by first | exact decide_eq_false hs | (rw [decide_eq_false hs]; rfl)) rfl rfl ?_
      refine skF rfl rfl (by first | exact decide_eq_false hs | (rw [decide_eq_false hs]; rfl)) rfl rfl ?_
      refine sV (rPick0 rfl rfl (by first | exact decide_eq_false hs | (rw [decide_eq_false hs]; rfl)) rfl) ?_
      refine tC rfl (fun h18 => ?_) (fun h18 => ?_)
      ·try simp only [zbA] at h18
       refine tS ?_
       refine tR fun _ _ _ => ?_
       iterate 2 refine pV ?_
       rcases Classical.em (((N : Int) / (ps.getD j.toNat (0, 0)).1) = i) with hs3 | hs3
       ·first
         | exact absurd hs3 hs
         | (have hno : irB (pol a : Po (El p m mod)) = false := irr_no hN h1N hps hjl (by rw [hs3]; intro h1; rw [pol_il, pol_il, pol_il, pol_il, pol_X01, gcd_sub_xq hm0, h1, Po.len_one] at h18; omega); exact tr_ret ⟨trivial, _, _, rfl, ⟨by rw [hno], rfl⟩, CSub.nil _, trivial⟩)
       ·exfalso; first | exact hs3 hs | (simp at h18; done) | exact absurd h18 (by simp)
      ·try simp only [zbA] at h18
       refine tK ?_
       refine tR fun _ _ _ => ?_
       refine sV (rAdd rfl rfl rfl (by omega) (by omega)) ?_
       refine pV ?_
       refine ⟨j + 1, ⟨rfl, rfl, rfl, rfl, rfl, rfl, rfl, rfl, rfl, rfl, rfl, rfl, rfl, rfl, trivial⟩, by first | exact cs _ _ | exact CSub.refl _, ?_⟩
       refine ⟨⟨⟨by omega, by omega⟩, fun z hz hq => ?_⟩, by omega⟩
       by_cases hzj : (z : Int) < j
       ·exact hj z hzj hq
       ·rw [show z = j.toNat by omega] at hq; exact absurd hq hs
    ·try simp only [zbA] at h16
     refine tE ?_
     refine tR fun _ _ _ => ?_
     refine pV ?_
     refine sV (rAdd rfl rfl rfl (by omega) (by omega)) ?_
     refine pV ?_
     refine ⟨i + 1, B14, c14, (Po.rem (Rg.pow Po.X ((pw p m).toNat ^ i.toNat)) (pol a : Po (El p m mod))), ⟨rfl, rfl, rfl, rfl, rfl, rfl, rfl, rfl, trivial⟩, by exact (cs _ [ow B14 3 c14 (ints (il (Po.rem (Rg.pow Po.X ((pw p m).toNat ^ i.toNat)) (pol a : Po (El p m mod))))), ro B9 (ints (il (Po.rem Po.X (pol a : Po (El p m mod))))), ow A8 3 2 (ints [0, 1]), ow2 B7 74 c7 (pws ps), ow B1 3 c1 (ints (il (pol a : Po (El p m mod)))), gfR g]).trans (ow_ro _), ?_⟩
     refine ⟨⟨⟨by omega, by omega⟩, by rw [show (i + 1 - 1).toNat = i.toNat by omega], fun z hz hlt => ?_⟩, by omega⟩
     by_cases hq : ((N : Int) / (ps.getD z (0, 0)).1) = i
     ·rw [hq]; exact hj z (by omega) hq
     ·exact hall z hz (by omega)
   ·try simp only [zbA] at h12
    refine tE ?_
    refine tS ?_
    have hiN : i = N + 1 := by omega
    have hilh := il_length (Po.rem (Rg.pow Po.X ((pw p m).toNat ^ (i - 1).toNat)) (pol a : Po (El p m mod)))
    have hlrh := Po.rem_len (Rg.pow Po.X ((pw p m).toNat ^ (i - 1).toNat)) hm0
    refine tR fun _ _ _ => ?_
    iterate 2 refine pV ?_
    refine eV (eCallV rfl rfl rfl (slc_Equal Bh _ ch (il (Po.rem (Rg.pow Po.X ((pw p m).toNat ^ (i - 1).toNat)) (pol a : Po (El p m mod)))) rfl B9 _ c9 (il (Po.rem Po.X (pol a : Po (El p m mod)))) rfl (by omega)) ⟨rfl, rfl, trivial⟩ ?_)
    iterate 2 refine pV ?_
    have hyes := irr_yes hN h1N hps (fun z hz => hall z hz (by have := nq_le hps h1N hz; omega))
    rw [show (i - 1).toNat = N by omega, hyes]
    exact tr_ret ⟨trivial, _, _, rfl, ⟨rfl, rfl⟩, CSub.nil _, trivial⟩
end Go.Proofs.Ytdkahdehodopoaa

namespace Go.Proofs.Ytdkahdehodopoaa
open Go.RowKit
section
end
theorem sub_alg {O K L x y c P : Int} (h : O + K = L + P * c) {k : Nat} (hP : (4294967296 : Int) ^ k = P := by rfl) : (O + P * vN [(x + 4294967296 - y - c) % 4294967296]) + (K + P * y) = (L + P * x) + 4294967296 ^ (k + 1) * (1 - (x + 4294967296 - y - c) / 4294967296) := by
 have h1 := Int.emod_add_mul_ediv (x + 4294967296 - y - c) 4294967296
 generalize (x + 4294967296 - y - c) % 4294967296 = r at *
 generalize (x + 4294967296 - y - c) / 4294967296 = q at *
 rw [Int.pow_succ, hP]
 simp only [vN]
 have : c = x + 4294967296 - y - (r + 4294967296 * q) := by omega
 subst this
 grind
theorem bpow (k : Nat) : (4294967296 : Int) ^ k = ((4294967296 ^ k : Nat) : Int) := by rw [Int.natCast_pow]; rfl
theorem vN_lt_of {l : List Int} (h : Lm l) {k : Nat} (hk : l.length ≤ k) : vN l < 4294967296 ^ k := by
 have h1 := vN_lt h
 have h2 := Nat.pow_le_pow_right (show 0 < 4294967296 by omega) hk
 rw [bpow] at h1 ⊢
 omega
theorem sub_end {o l k : List Int} {c : Int} (ho : Lm o) (hl : Lm l) (hk : Lm k) (hol : o.length = l.length) (hle : vN k ≤ vN l) (hc : 0 ≤ c ∧ c ≤ 1) (h : vN o + vN (k.take l.length) = vN l + 4294967296 ^ l.length * c) : vN o = vN l - vN k := by
 have h1 := vN_lt_of ho (Nat.le_of_eq hol)
 have h2 := vN_lt hl
 have h3 := vN_split k l.length
 have h4 := hN_nn hk l.length
 have h5 : 0 ≤ vN (k.take l.length) := vN_nn fun x hx => hk x (List.mem_of_mem_take hx)
 have hp : (0 : Int) < 4294967296 ^ l.length := Int.pow_pos (by omega)
 generalize (4294967296 : Int) ^ l.length = Q at *
 have h6 : hN k l.length = 0 := by
  rcases Int.lt_or_le 0 (hN k l.length) with g | g
  ·have := Int.mul_le_mul_of_nonneg_left (show 1 ≤ hN k l.length by omega) (Int.le_of_lt hp)
   omega
  ·omega
 rw [h6, Int.mul_zero] at h3
 have hcc : c = 0 ∨ c = 1 := by omega
 rcases hcc with rfl | rfl
 ·omega
 ·omega
theorem sub_nat {l k : List Int} (hl : Lm l) (hk : Lm k) (hle : vN k ≤ vN l) : (vN l - vN k).toNat = (vN l).toNat - (vN k).toNat := by
 have := vN_nn hl
 have := vN_nn hk
 omega
theorem lmb_mono {x y : Nat} (h : x ≤ y) : (lmb x).length ≤ (lmb y).length := lmb_len (Nat.lt_of_le_of_lt h (lmb_ge (Nat.le_refl _)))
theorem cmpZ_ge {a b : Int} : 0 ≤ cmpZ a b ↔ b ≤ a := by
 unfold cmpZ
 split
 ·omega
 ·split <;> omega
end Go.Proofs.Ytdkahdehodopoaa

namespace Go.Proofs.Ytdkahdehodopoaa
open Po
def dsm (N : Nat → Nat) (n : Nat) : Nat → Nat
 | 0 => 0
 | j + 1 => dsm N n j + if n % (j + 1) = 0 then (j + 1) * N (j + 1) else 0
def nsm (N : Nat → Nat) (n : Nat) : Nat → Nat
 | 0 => 0
 | j + 1 => nsm N n j + if n % (j + 1) = 0 then N (j + 1) else 0
def IsCnt (q : Nat) (N : Nat → Nat) : Prop := ∀ k, 1 ≤ k → dsm N k k = q ^ k
theorem grp_deg (ds : List Nat) (h : ∀ d ∈ ds, 1 ≤ d) : ∀ j, ((ds.filter fun d => decide (d ≤ j)).sum = (((List.range j).map fun i => (i + 1) * (ds.filter fun d => decide (d = i + 1)).length)).sum) ∧ ((ds.filter fun d => decide (d ≤ j)).length = (((List.range j).map fun i => (ds.filter fun d => decide (d = i + 1)).length)).sum)
 | 0 => by
  have e : (ds.filter fun d => decide (d ≤ 0)) = [] := List.filter_eq_nil_iff.2 fun d hd => by have := h d hd; simp; omega
  rw [e]; exact ⟨rfl, rfl⟩
 | j + 1 => by
  obtain ⟨a, b⟩ := grp_deg ds h j
  have key : ∀ l : List Nat, (l.filter fun d => decide (d ≤ j + 1)).sum = (l.filter fun d => decide (d ≤ j)).sum + (j + 1) * (l.filter fun d => decide (d = j + 1)).length ∧ (l.filter fun d => decide (d ≤ j + 1)).length = (l.filter fun d => decide (d ≤ j)).length + (l.filter fun d => decide (d = j + 1)).length := fun l => by
   induction l with
   | nil => exact ⟨rfl, rfl⟩
   | cons x l ih =>
    obtain ⟨i1, i2⟩ := ih
    rcases Nat.lt_trichotomy x (j + 1) with g | g | g
    ·have e1 : decide (x ≤ j + 1) = true := by simp; omega
     have e2 : decide (x ≤ j) = true := by simp; omega
     have e3 : decide (x = j + 1) = false := by simp; omega
     simp only [List.filter_cons, e1, e2, e3, if_true, List.sum_cons, List.length_cons, i1, i2]
     constructor
     ·simp; omega
     ·simp; omega
    ·have e1 : decide (x ≤ j + 1) = true := by simp; omega
     have e2 : decide (x ≤ j) = false := by simp; omega
     have e3 : decide (x = j + 1) = true := by simp; omega
     simp only [List.filter_cons, e1, e2, e3, if_true, List.sum_cons, List.length_cons, i1, i2]
     constructor
     ·simp [Nat.mul_add]; omega
     ·simp; omega
    ·have e1 : decide (x ≤ j + 1) = false := by simp; omega
     have e2 : decide (x ≤ j) = false := by simp; omega
     have e3 : decide (x = j + 1) = false := by simp; omega
     simp only [List.filter_cons, e1, e2, e3, i1, i2]
     constructor
     ·simp; omega
     ·simp; omega
  rw [List.range_succ, List.map_append, List.map_append, List.sum_append_nat, List.sum_append_nat, ← a, ← b]
  have := key ds
  simpa using this
theorem dsm_range (N : Nat → Nat) (n : Nat) (g : Nat → Nat) (h : ∀ i, n % (i + 1) = 0 → g i = N (i + 1)) (h0 : ∀ i, n % (i + 1) ≠ 0 → g i = 0) : ∀ j, ((List.range j).map fun i => (i + 1) * g i).sum = dsm N n j ∧ ((List.range j).map fun i => g i).sum = nsm N n j
 | 0 => ⟨rfl, rfl⟩
 | j + 1 => by
  obtain ⟨a, b⟩ := dsm_range N n g h h0 j
  rw [List.range_succ, List.map_append, List.map_append, List.sum_append_nat, List.sum_append_nat, a, b, dsm, nsm]
  by_cases e : n % (j + 1) = 0
  ·rw [if_pos e, if_pos e]; simp [h j e]
  ·rw [if_neg e, if_neg e]; simp [h0 j e]
section
variable {p m : Int} {mod : List Int} [hF : IsF p m mod]
theorem xq_len {n : Nat} (hn : 1 ≤ n) : len (xq p m mod n) = (pw p m).toNat ^ n + 1 ∧ lead (xq p m mod n) = 1 := by
 have hq : 2 ≤ (pw p m).toNat := by have := hF.q2; omega
 have hk : 2 ≤ (pw p m).toNat ^ n := by
  have := Nat.pow_le_pow_right (show 0 < (pw p m).toNat by omega) hn
  rw [Nat.pow_one] at this; omega
 have h1 : cf (xq p m mod n) ((pw p m).toNat ^ n) = 1 := by
  unfold xq
  rw [cf_sub, pow_X, cf_mn, if_pos rfl]
  show 1 - cf (mn 1 1) _ = 1
  rw [cf_mn, if_neg (by omega), Rg.sub_zero]
 have h2 : len (xq p m mod n) = (pw p m).toNat ^ n + 1 := len_eq (fun j hj => by
  unfold xq
  rw [cf_sub, pow_X, cf_mn, if_neg (by omega)]
  show 0 - cf (mn 1 1) _ = 0
  rw [cf_mn, if_neg (by omega), Rg.sub_zero]) (by rw [h1]; exact Fd.one_ne)
 refine ⟨h2, ?_⟩
 rw [lead, h2]; exact h1
noncomputable def prodP : List (Po (El p m mod)) → Po (El p m mod)
 | [] => 1
 | f :: l => f * prodP l
theorem prodP_spec {l : List (Po (El p m mod))} (h : ∀ f ∈ l, lead f = 1 ∧ 1 ≤ len f) : lead (prodP l) = 1 ∧ len (prodP l) = (l.map fun f => len f - 1).sum + 1 := by
 induction l with
 | nil => exact ⟨by rw [prodP, lead, len_one]; rfl, len_one⟩
 | cons f l ih =>
  obtain ⟨a, b⟩ := ih fun g hg => h g (List.mem_cons_of_mem _ hg)
  obtain ⟨c, d⟩ := h f (List.mem_cons_self ..)
  have n1 := lead_one_ne c
  have n2 := lead_one_ne a
  refine ⟨by rw [prodP, lead_mul n1 n2, a, c, Rg.mul_one], ?_⟩
  rw [prodP, len_mul n1 n2, b, List.map_cons, List.sum_cons]; omega
theorem prodP_mu {l : List (Po (El p m mod))} (h : ∀ f ∈ l, Ir f ∧ lead f = 1) (hnd : l.Nodup) {P : Po (El p m mod)} (hP : Ir P) (hl : lead P = 1) : (P ∈ l → mu P (prodP l) = 1) ∧ (P ∉ l → mu P (prodP l) = 0) := by
 induction l with
 | nil => exact ⟨fun h => by simp at h, fun _ => mu_one hP⟩
 | cons f l ih =>
  obtain ⟨hn1, hn2⟩ := List.nodup_cons.1 hnd
  obtain ⟨a, b⟩ := ih (fun g hg => h g (List.mem_cons_of_mem _ hg)) hn2
  obtain ⟨c, d⟩ := h f (List.mem_cons_self ..)
  have n2 := lead_one_ne (prodP_spec (l := l) fun g hg => ⟨(h g (List.mem_cons_of_mem _ hg)).2, by have := (h g (List.mem_cons_of_mem _ hg)).1.two; omega⟩).1
  rw [prodP, mu_mul hP c.ne n2, mu_ir hP c hl d]
  constructor
  ·intro hm
   by_cases e : P = f
   ·rw [if_pos e, b (by rw [e]; exact hn1)]
   ·rw [if_neg e, a ((List.mem_cons.1 hm).resolve_left e)]
  ·intro hm
   rw [if_neg fun e => hm (by rw [e]; exact List.mem_cons_self ..), b fun g => hm (List.mem_cons_of_mem _ g)]
noncomputable def irD (p m : Int) (mod : List Int) [hF : IsF p m mod] (d : Nat) : List (Po (El p m mod)) := (pols (elA p m mod) (d + 1)).filter fun f => @decide (Ir f ∧ lead f = 1 ∧ len f = d + 1) (Classical.propDecidable _)
noncomputable def irN (p m : Int) (mod : List Int) [hF : IsF p m mod] (d : Nat) : Nat := (irD p m mod d).length
noncomputable def irL (p m : Int) (mod : List Int) [hF : IsF p m mod] (n : Nat) : List (Po (El p m mod)) := (pols (elA p m mod) (n + 1)).filter fun f => @decide (Ir f ∧ lead f = 1 ∧ (len f - 1) ∣ n) (Classical.propDecidable _)
theorem mem_irD {d : Nat} {f : Po (El p m mod)} : f ∈ irD p m mod d ↔ Ir f ∧ lead f = 1 ∧ len f = d + 1 := by
 rw [irD, List.mem_filter, mem_pols elA_fin]
 simp only [decide_eq_true_eq]
 exact ⟨fun h => h.2, fun h => ⟨fun j hj => cf_ge (by omega), h⟩⟩
theorem mem_irL {n : Nat} (hn : 1 ≤ n) {f : Po (El p m mod)} : f ∈ irL p m mod n ↔ Ir f ∧ lead f = 1 ∧ (len f - 1) ∣ n := by
 rw [irL, List.mem_filter, mem_pols elA_fin]
 simp only [decide_eq_true_eq]
 exact ⟨fun h => h.2, fun h => ⟨fun j hj => cf_ge (by have := Nat.le_of_dvd (by omega) h.2.2; omega), h⟩⟩
theorem irL_nodup (n : Nat) : (irL p m mod n).Nodup := (pols_nodup elA_fin _).filter _
theorem irD_nodup (n : Nat) : (irD p m mod n).Nodup := (pols_nodup elA_fin _).filter _
theorem irL_prod {n : Nat} (hn : 1 ≤ n) : prodP (irL p m mod n) = xq p m mod n := by
 have hm : ∀ f ∈ irL p m mod n, Ir f ∧ lead f = 1 := fun f hf => by
  obtain ⟨a, b, _⟩ := (mem_irL hn).1 hf
  exact ⟨a, b⟩
 have h1 := (prodP_spec (l := irL p m mod n) fun f hf => ⟨(hm f hf).2, by have := (hm f hf).1.two; omega⟩).1
 have h2 := (xq_len (p := p) (m := m) (mod := mod) hn).2
 have h0 := lead_one_ne h2
 refine eq_of_mu h1 h2 fun P hP hl => ?_
 obtain ⟨a, b⟩ := prodP_mu hm (irL_nodup n) hP hl
 have h3 := (sf_iff_mu h0).1 (xq_sf hn) P hP
 have h4 := dvd_iff_mu hP h0
 rw [xq_dvd hP] at h4
 by_cases e : P ∈ irL p m mod n
 ·rw [a e]
  have := h4.1 ((mem_irL hn).1 e).2.2
  omega
 ·rw [b e]
  have : ¬ 1 ≤ mu P (xq p m mod n) := fun g => e ((mem_irL hn).2 ⟨hP, hl, h4.2 g⟩)
  omega
theorem irL_deg (n j : Nat) (hn : 1 ≤ n) : ((((irL p m mod n).map fun f => len f - 1)).filter fun d => decide (d = j + 1)).length = if n % (j + 1) = 0 then irN p m mod (j + 1) else 0 := by
 rw [List.filter_map, List.length_map]
 by_cases e : n % (j + 1) = 0
 ·rw [if_pos e]
  refine List.Perm.length_eq ((List.perm_ext_iff_of_nodup ((irL_nodup n).filter _) (irD_nodup _)).2 fun f => ?_)
  rw [List.mem_filter, mem_irL hn, mem_irD]
  constructor
  ·rintro ⟨⟨a, b, c⟩, d⟩
   have d1 : len f - 1 = j + 1 := by simpa using d
   exact ⟨a, b, by omega⟩
  ·rintro ⟨a, b, c⟩
   have c1 : len f - 1 = j + 1 := by omega
   exact ⟨⟨a, b, by rw [c1]; exact Nat.dvd_of_mod_eq_zero e⟩, by simpa using c1⟩
 ·rw [if_neg e, List.length_eq_zero_iff, List.filter_eq_nil_iff]
  intro f hf hd
  have d1 : len f - 1 = j + 1 := by simpa using hd
  have := ((mem_irL hn).1 hf).2.2
  rw [d1] at this
  exact e (Nat.mod_eq_zero_of_dvd this)
theorem irL_sums (n : Nat) (hn : 1 ≤ n) : ((irL p m mod n).map fun f => len f - 1).sum = dsm (irN p m mod) n n ∧ (irL p m mod n).length = nsm (irN p m mod) n n := by
 have hds : ∀ d ∈ (irL p m mod n).map fun f => len f - 1, 1 ≤ d := fun d hd => by
  obtain ⟨f, hf, rfl⟩ := List.mem_map.1 hd
  have := ((mem_irL hn).1 hf).1.two; omega
 obtain ⟨a, b⟩ := grp_deg _ hds n
 have hall : (((irL p m mod n).map fun f => len f - 1).filter fun d => decide (d ≤ n)) = (irL p m mod n).map fun f => len f - 1 := List.filter_eq_self.2 fun d hd => by
  obtain ⟨f, hf, rfl⟩ := List.mem_map.1 hd
  exact decide_eq_true (Nat.le_of_dvd (by omega) ((mem_irL hn).1 hf).2.2)
 obtain ⟨c, d⟩ := dsm_range (irN p m mod) n (fun i => ((((irL p m mod n).map fun f => len f - 1)).filter fun d => decide (d = i + 1)).length) (fun i hi => by rw [irL_deg n i hn, if_pos hi]) (fun i hi => by rw [irL_deg n i hn, if_neg hi]) n
 rw [hall] at a b
 rw [List.length_map] at b
 exact ⟨a.trans c, b.trans d⟩
theorem irN_cnt : IsCnt (pw p m).toNat (irN p m mod) := fun n hn => by
 have h1 := (irL_sums (p := p) (m := m) (mod := mod) n hn).1
 have h2 := (prodP_spec (l := irL p m mod n) fun f hf => ⟨((mem_irL hn).1 hf).2.1, by have := ((mem_irL hn).1 hf).1.two; omega⟩).2
 rw [irL_prod hn, (xq_len hn).1] at h2
 omega
end
end Go.Proofs.Ytdkahdehodopoaa

namespace Go.Proofs.Ytdkahdehodopoaa
open Go.RowKit
theorem u64_wrap (n : Int) : IntKind.u64.wrap n = n % 18446744073709551616 := by
 simp [IntKind.wrap, IntKind.bits, IntKind.signed]
theorem u32_wrap (n : Int) : IntKind.u32.wrap n = n % 4294967296 := by
 simp [IntKind.wrap, IntKind.bits, IntKind.signed]
section
variable {P : Program} {N : NB} {M : Nat → Prop} {w0 : World} {L : Fr} {F : List Chunk} {o : Oper} {x y : Operand} {t t' : TypeId}
theorem rConvW {k k' : IntKind} {n v : Int} (ho : o.op = .convert t t' x) {d : TypeDesc} (hd : P.underlying t = some d) (hu : P.underlying t' = some (.int k')) (hx : ev L x = some (.int k n)) (hw : k'.wrap n = v) : Stl P N M w0 o L F (.int k' v) := fun a w hl _ => by
 simp only [execOp, ho, hl.eval hx, Sem.run_bind]
 have : (convert t t' (.int k n)).run P w = .ok (.int k' v) w := by
  simp only [convert, Sem.run_bind, run_und hd, run_und hu, Result.andThen_ok]
  cases d <;> simp [Conv.intToInt, hw]
 rw [this]
 simp
theorem rShrU {k' : IntKind} {m s : Int} (ho : o.op = .binOp .shr t x y t') (hx : ev L x = some (.int .u64 m)) (hy : ev L y = some (.int k' s)) (h1 : 0 ≤ m ∧ m ≤ 18446744073709551615) (h3 : 0 ≤ s) (h4 : s < 64) : Stl P N M w0 o L F (.int .u64 (m / 2 ^ s.toNat)) :=
 stl_pure fun a hl => by
  have hb : IntKind.u64.bits = 64 := rfl
  have h6 : min s.toNat IntKind.u64.bits = s.toNat := by rw [hb]; omega
  have h7 : (0 : Int) ≤ 2 ^ s.toNat := Int.pow_nonneg (by omega)
  have h5 : m.fdiv (2 ^ s.toNat) = m / 2 ^ s.toNat := Int.fdiv_eq_ediv_of_nonneg _ h7
  have h8 : 0 ≤ m / 2 ^ s.toNat := Int.ediv_nonneg h1.1 h7
  have h9 : m / 2 ^ s.toNat ≤ m := Int.ediv_le_self _ h1.1
  have h10 := IntWalk.u64_in (m / 2 ^ s.toNat) ⟨h8, by omega⟩
  have hn : ¬ s < 0 := by omega
  simp only [execOp, ho, hl.eval hx, hl.eval hy, eqGuard, binOp, Op.shift, h6, h5, h10, hn]
  rfl
theorem rShr1 {k' : IntKind} {m : Int} (ho : o.op = .binOp .shr t x y t') (hx : ev L x = some (.int .i64 m)) (hy : ev L y = some (.int k' 1)) (h1 : 0 ≤ m ∧ m ≤ 9223372036854775807) : Stl P N M w0 o L F (.int .i64 (m / 2)) :=
 stl_pure fun a hl => by
  have h6 : min (1 : Int).toNat IntKind.i64.bits = 1 := rfl
  have h5 : m.fdiv (2 ^ 1) = m / 2 := Int.fdiv_eq_ediv_of_nonneg _ (by omega)
  have h10 := IntWalk.i64_in (m / 2) ⟨by omega, by omega⟩
  simp only [execOp, ho, hl.eval hx, hl.eval hy, eqGuard, binOp, Op.shift, h6, h5, h10]
  rfl
theorem rSubWU {m n : Int} (ho : o.op = .binOp .sub t x y t') (hx : ev L x = some (.int .u64 m)) (hy : ev L y = some (.int .u64 n)) : Stl P N M w0 o L F (.int .u64 ((m - n) % 18446744073709551616)) :=
 stl_pure fun a hl => by simp [execOp, ho, hl.eval hx, hl.eval hy, eqGuard, binOp, Op.intArith, u64_wrap]
theorem rOrU {m n : Int} (ho : o.op = .binOp .or t x y t') (hx : ev L x = some (.int .u64 (m * 4294967296))) (hy : ev L y = some (.int .u64 n)) (h1 : 0 ≤ m ∧ m < 4294967296) (h2 : 0 ≤ n ∧ n < 4294967296) : Stl P N M w0 o L F (.int .u64 (m * 4294967296 + n)) :=
 stl_pure fun a hl => by
  have h3 : (BitVec.ofInt IntKind.u64.bits (m * 4294967296) ||| BitVec.ofInt IntKind.u64.bits n).toNat = m.toNat * 4294967296 + n.toNat := by
   rw [BitVec.toNat_or, BitVec.toNat_ofInt, BitVec.toNat_ofInt]
   have e1 : (m * 4294967296 % ((2 ^ IntKind.u64.bits : Nat) : Int)).toNat = 2 ^ 32 * m.toNat := by
    rw [Int.emod_eq_of_lt (by omega) (by simp [IntKind.bits]; omega)]; omega
   have e2 : (n % ((2 ^ IntKind.u64.bits : Nat) : Int)).toNat = n.toNat := by
    rw [Int.emod_eq_of_lt h2.1 (by simp [IntKind.bits]; omega)]
   rw [e1, e2, ← Nat.two_pow_add_eq_or_of_lt (show n.toNat < 2 ^ 32 by omega)]
   omega
  have h4 : ((m.toNat * 4294967296 + n.toNat : Nat) : Int) = m * 4294967296 + n := by omega
  simp only [execOp, ho, hl.eval hx, hl.eval hy, eqGuard, binOp, Op.intBits, h3, h4, IntWalk.u64_in _ (show 0 ≤ m * 4294967296 + n ∧ m * 4294967296 + n ≤ 18446744073709551615 by omega)]
  rfl
theorem rAnd1 {m : Int} (ho : o.op = .binOp .and t x y t') (hx : ev L x = some (.int .i64 m)) (hy : ev L y = some (.int .i64 1)) (h1 : 0 ≤ m ∧ m ≤ 9223372036854775807) : Stl P N M w0 o L F (.int .i64 (m % 2)) :=
 stl_pure fun a hl => by
  have h3 : (BitVec.ofInt IntKind.i64.bits m &&& BitVec.ofInt IntKind.i64.bits 1).toNat = (m % 2).toNat := by
   rw [BitVec.toNat_and, BitVec.toNat_ofInt, BitVec.toNat_ofInt]
   have e1 : (m % ((2 ^ IntKind.i64.bits : Nat) : Int)).toNat = m.toNat := by
    rw [Int.emod_eq_of_lt h1.1 (by simp [IntKind.bits]; omega)]
   have e2 : ((1 : Int) % ((2 ^ IntKind.i64.bits : Nat) : Int)).toNat = 2 ^ 1 - 1 := by rfl
   rw [e1, e2, Nat.and_two_pow_sub_one_eq_mod]
   omega
  have h4 : (((m % 2).toNat : Nat) : Int) = m % 2 := Int.toNat_of_nonneg (by omega)
  simp only [execOp, ho, hl.eval hx, hl.eval hy, eqGuard, binOp, Op.intBits, h3, h4, IntWalk.i64_in (m % 2) ⟨by omega, by omega⟩]
  rfl
end
theorem ow_rx_take {e : TypeId} {B : Option Addr} {cap : Nat} {l : List Int} (k : Nat) (F : List Chunk) : CSub (ow B e cap (w32 l) :: F) (rx B (w32 (l.take k)) :: F) := by
 refine CSub.trans (ow_rx F) ?_
 have h := rx_cut (A := B) (vs := w32 (l.take k)) (ws := w32 (l.drop k)) F
 rwa [← w32_app, List.take_append_drop] at h
theorem short_len {l : List Int} (h : Lm l) {k : Nat} (hk : k ≤ l.length) (h0 : ∀ j, k ≤ j → l.getD j 0 = 0) (h1 : k = 0 ∨ l.getD (k - 1) 0 ≠ 0) : k = (lmb (vN l).toNat).length := by
 have := congrArg List.length (lmb_cut h hk h0 h1)
 rw [List.length_take, Nat.min_eq_left hk] at this
 exact this
theorem lmb_take {l : List Int} (h : Lm l) : l.take (lmb (vN l).toNat).length = lmb (vN l).toNat := by
 have key : ∃ k, k ≤ l.length ∧ (∀ j, k ≤ j → l.getD j 0 = 0) ∧ (k = 0 ∨ l.getD (k - 1) 0 ≠ 0) := by
  have : ∀ n, n ≤ l.length → (∀ j, n ≤ j → l.getD j 0 = 0) → ∃ k, k ≤ l.length ∧ (∀ j, k ≤ j → l.getD j 0 = 0) ∧ (k = 0 ∨ l.getD (k - 1) 0 ≠ 0) := fun n => by
   induction n with
   | zero => exact fun h1 h2 => ⟨0, h1, h2, .inl rfl⟩
   | succ n ih =>
    intro h1 h2
    by_cases e : l.getD n 0 = 0
    ·refine ih (by omega) fun j hj => ?_
     rcases Nat.lt_or_ge n j with g | g
     ·exact h2 j g
     ·rw [show j = n by omega]; exact e
    ·exact ⟨n + 1, h1, h2, .inr e⟩
  exact this l.length (Nat.le_refl _) fun j hj => getD_out hj
 obtain ⟨k, h1, h2, h3⟩ := key
 rw [← short_len h h1 h2 h3]
 exact lmb_cut h h1 h2 h3
theorem lmb_self (x : Nat) : lmb (vN (lmb x)).toNat = lmb x := by rw [vN_lmb]; rfl
end Go.Proofs.Ytdkahdehodopoaa

set_option maxRecDepth 100000
namespace Go.Proofs.Ytdkahdehodopoaa
open Go.RowKit
theorem p32 : (2 : Int) ^ (32 : Int).toNat = 4294967296 := by rfl
theorem nat_short_ent : Enters Try.prog 73 := enters_of Try.func73 (by kernel_rfl) (by kernel_rfl)
theorem nat_short (X : Option Addr) (nx cx : Nat) (l : List Int) (hnx : nx = l.length) (hlnx : Lm l) (h9nx : nx ≤ 4000000) (hcx : nx ≤ cx) :
  Pure Try.prog 73 #[.slice X nx cx] [ro X (w32 l)] (isV (.slice X (lmb (vN l).toNat).length (lmb (vN l).toNat).length)) := by
 refine pure_of (args := [.slice X nx cx]) 22 Try.func73 rfl rfl rfl nat_short_ent ⟨id, trivial⟩ (fun w0 => ?_)
 refine tS ?_
 refine tR fun _ _ _ => ?_
 refine pV ?_
 refine tS ?_
 refine tR fun _ _ _ => ?_
 refine pV ?_
 refine sV (rLen rfl rfl) ?_
 refine pV ?_
 refine tS ?_
 refine tB ?_
 refine tr_loop1 (fun (k : Int) => [(3, .int .i64 k), (0, .slice X nx cx), (2, .slice none 0 0)]) (fun (k : Int) => [ro X (w32 l)]) (fun (k : Int) => (0 ≤ k ∧ k ≤ nx) ∧ ∀ j, k.toNat ≤ j → l.getD j 0 = 0) (fun (k : Int) => k.toNat) (nx) ⟨rfl, rfl, rfl, trivial⟩ (by first | exact cs _ _ | exact CSub.refl _) (⟨⟨by omega, by omega⟩, fun j hj => getD_out (by omega)⟩) (fun k hI => ?_)
 obtain ⟨⟨hk0, hk1⟩, hz⟩ := hI
 refine tS ?_
 refine tS ?_
 refine tR fun _ _ _ => ?_
 iterate 3 refine pV ?_
 refine stg rfl rfl rfl rfl rfl (fun hb => by (have hq := hb; try simp only [zbA] at hq); exact rMove rfl rfl) ?_
 refine stg rfl rfl rfl rfl rfl (fun hb => by (have hq := hb; try simp only [zbA] at hq); exact rMove rfl rfl) ?_
 refine stg rfl rfl rfl rfl rfl (fun hb => by (have hq := hb; try simp only [zbA] at hq); exact rSub rfl (evg rfl hb) rfl (by omega) (by omega)) ?_
 refine stg rfl rfl rfl rfl rfl (fun hb => by (have hq := hb; try simp only [zbA] at hq); exact rIdxW rfl (evg rfl hb) (evg rfl hb) (by omega) (by omega) (by omega)) ?_
 refine stg rfl rfl rfl rfl rfl (fun hb => by (have hq := hb; try simp only [zbA] at hq); exact rLdW rfl (evg rfl hb) (by omega)) ?_
 refine stg rfl rfl rfl rfl rfl (fun hb => by (have hq := hb; try simp only [zbA] at hq); exact rEqlK rfl (evg rfl hb) rfl) ?_
 refine sV (rAndB rfl rfl rfl rfl) ?_
 refine tC rfl (fun h2 => ?_) (fun h2 => ?_)
 ·try simp only [zbA] at h2
  refine tK ?_
  refine tB ?_
  refine tR fun _ _ _ => ?_
  refine pV ?_
  refine sV (rSub rfl rfl rfl (by omega) (by omega)) ?_
  refine pV ?_
  refine ⟨k - 1, ⟨rfl, rfl, rfl, trivial⟩, by first | exact cs _ _ | exact CSub.refl _, ?_⟩
  refine ⟨⟨⟨by omega, by omega⟩, fun j hj => ?_⟩, by omega⟩
  rcases Nat.lt_or_ge j k.toNat with h | h
  ·rw [show j = (k - 1).toNat by omega]; exact h2.2
  ·exact hz j h
 ·try simp only [zbA] at h2
  refine tE ?_
  refine tS ?_
  have hsl := short_len hlnx (k := k.toNat) (by omega) hz (h2.elim (fun h => .inl (by omega)) (fun h => .inr (by rw [show k.toNat - 1 = (k - 1).toNat by omega]; exact h)))
  refine tR fun _ _ _ => ?_
  iterate 3 refine pV ?_
  refine sV (rCut3 rfl rfl rfl rfl (by omega) (by omega)) ?_
  refine pV ?_
  exact tr_ret ⟨trivial, _, _, rfl, ⟨by rw [hsl], rfl⟩, CSub.nil _, trivial⟩
theorem nat_Trim_ent : Enters Try.prog 75 := enters_of Try.func75 (by kernel_rfl) (by kernel_rfl)
theorem nat_Trim (X : Option Addr) (nx cx : Nat) (l : List Int) (hnx : nx = l.length) (hlnx : Lm l) (h9nx : nx ≤ 4000000) (hcx : nx ≤ cx) :
  Pure Try.prog 75 #[.slice X nx cx] [ro X (w32 l)] (one (fun v ch => ∃ B c, v = .slice B (lmb ((vN l).toNat)).length c ∧ ch = ow B 86 c (w32 (lmb ((vN l).toNat))) ∧ (lmb ((vN l).toNat)).length ≤ c)) := by
 refine pure_of (args := [.slice X nx cx]) 6 Try.func75 rfl rfl rfl nat_Trim_ent ⟨id, trivial⟩ (fun w0 => ?_)
 refine tS ?_
 refine tR fun _ _ _ => ?_
 refine pV ?_
 refine tS ?_
 have hll := lmb_short hlnx
 refine tr_nilW 86 ?_
 refine tR fun _ _ _ => ?_
 refine pV ?_
 refine eV (eCallV rfl rfl rfl (nat_short X nx cx l hnx hlnx (by omega) (by omega)) ⟨rfl, trivial⟩ ?_)
 refine lst_sub (CSub.cons _ (ro_take (lmb (vN l).toNat).length [])) ?_
 rw [w32_take, lmb_take hlnx]
 refine eV (eAppW rfl rfl rfl rfl rfl (by rfl) (by rfl) (by simp; omega) (fun A1a c1a => ?_))
 refine pV ?_
 rw [List.nil_append]
 refine tr_cap A1a 86 c1a (w32 (lmb (vN l).toNat)) fun hcap => ?_
 rw [w32_length] at hcap
 exact tr_ret ⟨trivial, _, _, rfl, ⟨_, rfl, A1a, c1a, rfl, rfl, hcap⟩, cs _ _, trivial, trivial⟩
theorem nat_Of_ent : Enters Try.prog 40 := enters_of Try.func40 (by kernel_rfl) (by kernel_rfl)
theorem nat_Of (n : Int) (hn0 : 0 ≤ n) (hn9 : n ≤ 18446744073709551615) :
  Pure Try.prog 40 #[.int .u64 n] [] (one (fun v ch => ∃ B c, v = .slice B (lmb (n.toNat)).length c ∧ ch = ow B 86 c (w32 (lmb (n.toNat))) ∧ (lmb (n.toNat)).length ≤ c)) := by
 refine pure_of (args := [.int .u64 n]) 10 Try.func40 rfl rfl rfl nat_Of_ent trivial (fun w0 => ?_)
 refine tS ?_
 refine tR fun _ _ _ => ?_
 refine pV ?_
 refine tS ?_
 have hl2 : Lm [n % 4294967296, n / 2 ^ (32 : Int).toNat % 4294967296] := fun x hx => by
  simp only [List.mem_cons, List.not_mem_nil, or_false] at hx
  rcases hx with rfl | rfl <;> omega
 have hv : (vN [n % 4294967296, n / 2 ^ (32 : Int).toNat % 4294967296]).toNat = n.toNat := by simp only [vN, p32]; omega
 refine tR fun _ _ _ => ?_
 refine pV ?_
 refine sV (rConvW rfl undU64 undU32 rfl (u32_wrap _)) ?_
 refine pV ?_
 refine sV (rShrU rfl rfl rfl ⟨by omega, by omega⟩ (by omega) (by omega)) ?_
 refine sV (rConvW rfl undU64 undU32 rfl (u32_wrap _)) ?_
 refine eV (eLit2W rfl rfl rfl rfl rfl (fun A1 => ?_))
 refine eV (eCall1 rfl rfl rfl (nat_Trim A1 2 2 [n % 4294967296, n / 2 ^ (32 : Int).toNat % 4294967296] rfl hl2 (by omega) (by omega)) ⟨rfl, trivial⟩ ?_)
 rintro _ _ ⟨B1a, c1a, rfl, rfl, hc1a⟩
 refine pV ?_
 rw [hv] at hc1a ⊢
 exact tr_ret ⟨trivial, _, _, rfl, ⟨_, rfl, B1a, c1a, rfl, rfl, hc1a⟩, cs _ _, trivial, trivial⟩
theorem nat_times_ent : Enters Try.prog 74 := enters_of Try.func74 (by kernel_rfl) (by kernel_rfl)
theorem nat_times (X : Option Addr) (nx cx : Nat) (l : List Int) (hnx : nx = l.length) (hlnx : Lm l) (h9nx : nx ≤ 1000000) (Y : Option Addr) (ny cy : Nat) (k : List Int) (hny : ny = k.length) (hlny : Lm k) (h9ny : ny ≤ 1000000) :
  Pure Try.prog 74 #[.slice X nx cx, .slice Y ny cy] [ro X (w32 l), ro Y (w32 k)] (one (fun v ch => ∃ B, v = .slice B (lmb ((vN l * vN k).toNat)).length (lmb ((vN l * vN k).toNat)).length ∧ ch = rx B (w32 (lmb ((vN l * vN k).toNat))))) := by
 refine pure_of (args := [.slice X nx cx, .slice Y ny cy]) 68 Try.func74 rfl rfl rfl nat_times_ent ⟨id, id, trivial⟩ (fun w0 => ?_)
 refine tS ?_
 refine tR fun _ _ _ => ?_
 refine pV ?_
 refine tS ?_
 refine tR fun _ _ _ => ?_
 refine pV ?_
 refine sV (rLen rfl rfl) ?_
 refine pV ?_
 refine sV (rLen rfl rfl) ?_
 refine sV (rAdd rfl rfl rfl (by omega) (by omega)) ?_
 refine eV (eMakeW rfl rfl rfl rfl rfl (by omega) (by omega) (by omega) (fun A1 => ?_))
 refine pV ?_
 refine tS ?_
 refine tS ?_
 refine tR fun _ _ _ => ?_
 refine pV ?_
 refine sV (rLen rfl rfl) ?_
 refine pV ?_
 refine tB ?_
 refine tr_loop2 (fun (i : Int) (o : List Int) => [(5, .slice A1 ((nx : Int) + ny).toNat ((nx : Int) + ny).toNat), (20, .int .i64 i), (1, .slice Y ny cy), (4, .slice none 0 0), (18, .slice X nx cx), (19, .int .i64 nx)]) (fun (i : Int) (o : List Int) => [ow A1 86 ((nx : Int) + ny).toNat (w32 o), ro X (w32 l), ro Y (w32 k)]) (fun (i : Int) (o : List Int) => (0 ≤ i ∧ i ≤ nx) ∧ o.length = nx + ny ∧ Lm o ∧ vN o = vN (l.take i.toNat) * vN k ∧ ∀ t : Nat, i + ny ≤ t → o.getD t 0 = 0) (fun (i : Int) (o : List Int) => (nx - i).toNat) (0) (List.replicate ((nx : Int) + ny).toNat 0) ⟨rfl, rfl, rfl, rfl, rfl, rfl, trivial⟩ (by first | exact cs _ _ | exact CSub.refl _) (⟨⟨by omega, by omega⟩, by rw [List.length_replicate]; omega, lm_rep _, by rw [vN_zeros]; simp [vN], fun t _ => rep_get _ _⟩) (fun i o hI => ?_)
 obtain ⟨⟨hi0, hi1⟩, hoL, hol, hs, hz⟩ := hI
 refine tS ?_
 refine tR fun _ _ _ => ?_
 refine pV ?_
 refine tS ?_
 refine tC rfl (fun h3 => ?_) (fun h3 => ?_)
 ·try simp only [zbA] at h3
  refine tK ?_
  refine tS ?_
  refine tB ?_
  refine tS ?_
  refine tR fun _ _ _ => ?_
  refine pV ?_
  refine sV (rIdxW rfl rfl rfl (by omega) (by omega) (by omega)) ?_
  refine sV (rLdW rfl rfl (by omega)) ?_
  iterate 2 refine pV ?_
  refine tS ?_
  refine tR fun _ _ _ => ?_
  refine pV ?_
  refine tS ?_
  refine tS ?_
  refine tR fun _ _ _ => ?_
  refine pV ?_
  refine sV (rLen rfl rfl) ?_
  refine pV ?_
  refine tB ?_
  refine tr_loop3 (fun (j : Int) (cy2 : Int) (o2 : List Int) => [(5, .slice A1 ((nx : Int) + ny).toNat ((nx : Int) + ny).toNat), (8, .int .u64 cy2), (27, .int .i64 j), (7, .int .u32 (l.getD i.toNat 0)), (1, .slice Y ny cy), (4, .slice none 0 0), (6, .int .i64 i), (18, .slice X nx cx), (19, .int .i64 nx), (20, .int .i64 i), (22, .int .i64 i), (25, .slice Y ny cy), (26, .int .i64 ny)]) (fun (j : Int) (cy2 : Int) (o2 : List Int) => [ow A1 86 ((nx : Int) + ny).toNat (w32 o2), ro X (w32 l), ro Y (w32 k)]) (fun (j : Int) (cy2 : Int) (o2 : List Int) => (0 ≤ j ∧ j ≤ ny) ∧ (0 ≤ cy2 ∧ cy2 < 4294967296) ∧ o2.length = nx + ny ∧ Lm o2 ∧ vN o2 + 4294967296 ^ (i + j).toNat * cy2 = vN (l.take i.toNat) * vN k + 4294967296 ^ i.toNat * l.getD i.toNat 0 * vN (k.take j.toNat) ∧ ∀ t : Nat, i + ny ≤ t → o2.getD t 0 = 0) (fun (j : Int) (cy2 : Int) (o2 : List Int) => (ny - j).toNat) (0) (0) (o) ⟨rfl, rfl, rfl, rfl, rfl, rfl, rfl, rfl, rfl, rfl, rfl, rfl, rfl, trivial⟩ (by first | exact cs _ _ | exact CSub.refl _) (⟨⟨by omega, by omega⟩, ⟨by omega, by omega⟩, hoL, hol, by rw [hs]; simp [vN], hz⟩) (fun j cy2 o2 hI => ?_)
  obtain ⟨⟨hj0, hj1⟩, ⟨hc0, hc1⟩, hoL2, hol2, hs2, hz2⟩ := hI
  refine tS ?_
  refine tR fun _ _ _ => ?_
  refine pV ?_
  refine tS ?_
  refine tC rfl (fun h7 => ?_) (fun h7 => ?_)
  ·try simp only [zbA] at h7
   refine tK ?_
   refine tS ?_
   refine tB ?_
   refine tS ?_
   refine tR fun _ _ _ => ?_
   refine pV ?_
   refine sV (rIdxW rfl rfl rfl (by omega) (by omega) (by omega)) ?_
   refine sV (rLdW rfl rfl (by omega)) ?_
   iterate 2 refine pV ?_
   refine tS ?_
   have hli := hlnx.get i.toNat
   have hkj := hlny.get j.toNat
   have hoj := hol2.get (i + j).toNat
   have hlk : 0 ≤ l.getD i.toNat 0 * k.getD j.toNat 0 := Int.mul_nonneg hli.1 hkj.1
   have hlk9 : l.getD i.toNat 0 * k.getD j.toNat 0 ≤ 4294967295 * 4294967295 := Int.mul_le_mul (by omega) (by omega) hkj.1 (by omega)
   refine tR fun _ _ _ => ?_
   refine pV ?_
   refine sV (rConv rfl undU32 undU64 rfl (IntWalk.u64_in _ ⟨by omega, by omega⟩)) ?_
   refine pV ?_
   refine sV (rConv rfl undU32 undU64 rfl (IntWalk.u64_in _ ⟨by omega, by omega⟩)) ?_
   refine sV (rMulU rfl rfl rfl (by omega) (by omega)) ?_
   iterate 3 refine pV ?_
   refine sV (rAdd rfl rfl rfl (by omega) (by omega)) ?_
   refine sV (rIdxW rfl rfl rfl (by omega) (by omega) (by omega)) ?_
   refine sV (rLdW rfl rfl (by omega)) ?_
   refine sV (rConv rfl undU32 undU64 rfl (IntWalk.u64_in _ ⟨by omega, by omega⟩)) ?_
   refine sV (rAddU rfl rfl rfl (by omega) (by omega)) ?_
   refine pV ?_
   refine sV (rAddU rfl rfl rfl (by omega) (by omega)) ?_
   refine pV ?_
   refine tS ?_
   refine tR fun _ _ _ => ?_
   iterate 3 refine pV ?_
   refine sV (rAdd rfl rfl rfl (by omega) (by omega)) ?_
   refine pV ?_
   refine sV (rConvW rfl undU64 undU32 rfl (u32_wrap _)) ?_
   refine sV (rIdxW rfl rfl rfl (by omega) (by omega) (by omega)) ?_
   refine eV (eStW rfl rfl rfl rfl (by omega) ?_)
   refine tR fun _ _ _ => ?_
   refine pV ?_
   refine sV (rShrU rfl rfl rfl ⟨by omega, by omega⟩ (by omega) (by omega)) ?_
   refine pV ?_
   rw [p32]
   refine tR fun _ _ _ => ?_
   refine sV (rAdd rfl rfl rfl (by omega) (by omega)) ?_
   refine pV ?_
   refine ⟨j + 1, (l.getD i.toNat 0 * k.getD j.toNat 0 + o2.getD (i + j).toNat 0 + cy2) / 4294967296, o2.set (i + j).toNat ((l.getD i.toNat 0 * k.getD j.toNat 0 + o2.getD (i + j).toNat 0 + cy2) % 4294967296), ⟨rfl, rfl, rfl, rfl, rfl, rfl, rfl, rfl, rfl, rfl, rfl, rfl, rfl, trivial⟩, by first | exact cs _ _ | exact CSub.refl _, ?_⟩
   refine ⟨⟨⟨by omega, by omega⟩, ⟨by omega, by omega⟩, by simp; omega, lm_set hol2 (by omega) (by omega), ?_, fun t ht => ?_⟩, by omega⟩
   ·rw [show (j + 1).toNat = j.toNat + 1 by omega, vN_tk, vN_set (by omega), show (i + (j + 1)).toNat = (i + j).toNat + 1 by omega]
    rw [show (i + j).toNat = i.toNat + j.toNat by omega] at hs2 ⊢
    exact mul_alg hs2
   ·rw [getD_set, if_neg (by omega)]; exact hz2 t ht
  ·try simp only [zbA] at h7
   refine tE ?_
   refine tR fun _ _ _ => ?_
   iterate 3 refine pV ?_
   refine sV (rLen rfl rfl) ?_
   refine sV (rAdd rfl rfl rfl (by omega) (by omega)) ?_
   refine pV ?_
   refine sV (rConvW rfl undU64 undU32 rfl (u32_wrap _)) ?_
   refine sV (rIdxW rfl rfl rfl (by omega) (by omega) (by omega)) ?_
   refine eV (eStW rfl rfl rfl rfl (by omega) ?_)
   rw [Int.emod_eq_of_lt (a := cy2) (by omega) (by omega)]
   refine tR fun _ _ _ => ?_
   refine sV (rAdd rfl rfl rfl (by omega) (by omega)) ?_
   refine pV ?_
   refine ⟨i + 1, o2.set (i + ny).toNat cy2, ⟨rfl, rfl, rfl, rfl, rfl, rfl, trivial⟩, by first | exact cs _ _ | exact CSub.refl _, ?_⟩
   refine ⟨⟨⟨by omega, by omega⟩, by simp; omega, lm_set hol2 (by omega) (by omega), ?_, fun t ht => ?_⟩, by omega⟩
   ·rw [show (i + 1).toNat = i.toNat + 1 by omega, vN_tk, vN_set (by omega), hz2 _ (by omega)]
    have hjn : j = ny := by omega
    rw [hjn, vN_all (l := k) (by omega)] at hs2
    rw [Int.sub_zero, hs2, Int.add_mul]
   ·rw [getD_set, if_neg (by omega)]; exact hz2 t (by omega)
 ·try simp only [zbA] at h3
  refine tE ?_
  refine tS ?_
  have hnn : ((nx : Int) + ny).toNat = o.length := by omega
  have hv : vN o = vN l * vN k := by rw [hs, vN_all (by omega)]
  refine tR fun _ _ _ => ?_
  refine pV ?_
  refine eV (eCallV rfl rfl rfl (nat_short A1 _ _ o hnn hol (by omega) (by omega)) ⟨rfl, trivial⟩ ?_)
  refine pV ?_
  refine tr_chunks _ (ow_rx_take (lmb (vN o).toNat).length _) ?_
  rw [lmb_take hol, hv]
  exact tr_ret ⟨trivial, _, _, rfl, ⟨_, rfl, A1, rfl, rfl⟩, cs _ _, trivial, trivial⟩
theorem nat_plusG_ent : Enters Try.prog 76 := enters_of Try.func76 (by kernel_rfl) (by kernel_rfl)
theorem nat_plusG (X : Option Addr) (nx cx : Nat) (l : List Int) (hnx : nx = l.length) (hlnx : Lm l) (h9nx : nx ≤ 1000000) (Y : Option Addr) (ny cy : Nat) (k : List Int) (hny : ny = k.length) (hlny : Lm k) (h9ny : ny ≤ 1000000) (hge : ny ≤ nx) :
  Pure Try.prog 76 #[.slice X nx cx, .slice Y ny cy] [ro X (w32 l), ro Y (w32 k)] (one (fun v ch => ∃ B, v = .slice B (lmb ((vN l + vN k).toNat)).length (lmb ((vN l + vN k).toNat)).length ∧ ch = rx B (w32 (lmb ((vN l + vN k).toNat))))) := by
 refine pure_of (args := [.slice X nx cx, .slice Y ny cy]) 59 Try.func76 rfl rfl rfl nat_plusG_ent ⟨id, id, trivial⟩ (fun w0 => ?_)
 refine tS ?_
 refine tR fun _ _ _ => ?_
 refine pV ?_
 refine tS ?_
 refine tS ?_
 refine tR fun _ _ _ => ?_
 refine pV ?_
 refine sV (rLen rfl rfl) ?_
 refine pV ?_
 refine sV (rLen rfl rfl) ?_
 refine pV ?_
 refine tC rfl (fun h1 => ?_) (fun h1 => ?_)
 ·try simp only [zbA] at h1
  omega --done
 ·try simp only [zbA] at h1
  refine tK ?_
  refine tS ?_
  refine tR fun _ _ _ => ?_
  refine pV ?_
  refine sV (rLen rfl rfl) ?_
  refine sV (rAdd rfl rfl rfl (by omega) (by omega)) ?_
  refine eV (eMakeW rfl rfl rfl rfl rfl (by omega) (by omega) (by omega) (fun A3 => ?_))
  refine pV ?_
  refine tS ?_
  refine tR fun _ _ _ => ?_
  refine pV ?_
  refine tS ?_
  refine tS ?_
  refine tR fun _ _ _ => ?_
  refine pV ?_
  refine sV (rLen rfl rfl) ?_
  refine pV ?_
  refine tB ?_
  refine tr_loop3 (fun (i : Int) (cy2 : Int) (o : List Int) => [(6, .int .u64 cy2), (22, .int .i64 i), (5, .slice A3 ((nx : Int) + 1).toNat ((nx : Int) + 1).toNat), (0, .slice X nx cx), (1, .slice Y ny cy), (4, .slice none 0 0), (21, .int .i64 nx)]) (fun (i : Int) (cy2 : Int) (o : List Int) => [ow A3 86 ((nx : Int) + 1).toNat (w32 o), ro X (w32 l), ro Y (w32 k)]) (fun (i : Int) (cy2 : Int) (o : List Int) => (0 ≤ i ∧ i ≤ nx) ∧ (0 ≤ cy2 ∧ cy2 ≤ 1) ∧ o.length = nx + 1 ∧ Lm o ∧ (∀ t : Nat, i ≤ t → o.getD t 0 = 0) ∧ vN o + 4294967296 ^ i.toNat * cy2 = vN (l.take i.toNat) + vN (k.take i.toNat)) (fun (i : Int) (cy2 : Int) (o : List Int) => (nx - i).toNat) (0) (0) (List.replicate ((nx : Int) + 1).toNat 0) ⟨rfl, rfl, rfl, rfl, rfl, rfl, rfl, trivial⟩ (by first | exact cs _ _ | exact CSub.refl _) (⟨⟨by omega, by omega⟩, ⟨by omega, by omega⟩, by rw [List.length_replicate]; omega, lm_rep _, fun t _ => rep_get _ _, by rw [vN_zeros]; simp [vN]⟩) (fun i cy2 o hI => ?_)
  obtain ⟨⟨hi0, hi1⟩, ⟨hc0, hc1⟩, hoL, hol, hz, hs⟩ := hI
  refine tS ?_
  refine tR fun _ _ _ => ?_
  refine pV ?_
  refine tS ?_
  refine tC rfl (fun h6 => ?_) (fun h6 => ?_)
  ·try simp only [zbA] at h6
   refine tK ?_
   refine tS ?_
   refine tB ?_
   refine tS ?_
   refine tR fun _ _ _ => ?_
   iterate 2 refine pV ?_
   refine tS ?_
   have hli := hlnx.get i.toNat
   have hki := hlny.get i.toNat
   refine tR fun _ _ _ => ?_
   iterate 2 refine pV ?_
   refine sV (rIdxW rfl rfl rfl (by omega) (by omega) (by omega)) ?_
   refine sV (rLdW rfl rfl (by omega)) ?_
   refine sV (rConv rfl undU32 undU64 rfl (IntWalk.u64_in _ ⟨by omega, by omega⟩)) ?_
   refine pV ?_
   refine sV (rAddU rfl rfl rfl (by omega) (by omega)) ?_
   refine pV ?_
   refine tS ?_
   refine tS ?_
   refine tR fun _ _ _ => ?_
   iterate 2 refine pV ?_
   refine sV (rLen rfl rfl) ?_
   refine pV ?_
   refine tC rfl (fun h9 => ?_) (fun h9 => ?_)
   ·try simp only [zbA] at h9
    refine tR fun _ _ _ => ?_
    iterate 3 refine pV ?_
    refine sV (rIdxW rfl rfl rfl (by omega) (by omega) (by omega)) ?_
    refine sV (rLdW rfl rfl (by omega)) ?_
    refine sV (rConv rfl undU32 undU64 rfl (IntWalk.u64_in _ ⟨by omega, by omega⟩)) ?_
    refine sV (rAddU rfl rfl rfl (by omega) (by omega)) ?_
    refine pV ?_
    refine tS ?_
    refine tR fun _ _ _ => ?_
    iterate 3 refine pV ?_
    refine sV (rConvW rfl undU64 undU32 rfl (u32_wrap _)) ?_
    refine sV (rIdxW rfl rfl rfl (by omega) (by omega) (by omega)) ?_
    refine eV (eStW rfl rfl rfl rfl (by omega) ?_)
    refine tR fun _ _ _ => ?_
    refine pV ?_
    refine sV (rShrU rfl rfl rfl ⟨by omega, by omega⟩ (by omega) (by omega)) ?_
    refine pV ?_
    rw [p32]
    refine tR fun _ _ _ => ?_
    refine sV (rAdd rfl rfl rfl (by omega) (by omega)) ?_
    refine pV ?_
    refine ⟨i + 1, (l.getD i.toNat 0 + cy2 + k.getD i.toNat 0) / 4294967296, o.set i.toNat ((l.getD i.toNat 0 + cy2 + k.getD i.toNat 0) % 4294967296), ⟨rfl, rfl, rfl, rfl, rfl, rfl, rfl, trivial⟩, by first | exact cs _ _ | exact CSub.refl _, ?_⟩
    have ha := add_alg (x := l.getD i.toNat 0) (y := k.getD i.toNat 0) hs
    simp only [vN, Int.mul_zero, Int.add_zero] at ha
    have hse : l.getD i.toNat 0 + k.getD i.toNat 0 + cy2 = (l.getD i.toNat 0 + cy2 + k.getD i.toNat 0) := by omega
    rw [hse] at ha
    refine ⟨⟨⟨by omega, by omega⟩, ⟨by omega, by omega⟩, by simp; omega, lm_set hol (by omega) (by omega), fun t ht => ?_, ?_⟩, by omega⟩
    ·rw [getD_set, if_neg (by omega)]; exact hz t (by omega)
    ·rw [show (i + 1).toNat = i.toNat + 1 by omega, vN_tk, vN_tk, vN_set (by omega), hz _ (by omega), Int.sub_zero]
     exact ha
   ·try simp only [zbA] at h9
    refine tK ?_
    refine tS ?_
    refine tR fun _ _ _ => ?_
    iterate 3 refine pV ?_
    refine sV (rConvW rfl undU64 undU32 rfl (u32_wrap _)) ?_
    refine sV (rIdxW rfl rfl rfl (by omega) (by omega) (by omega)) ?_
    refine eV (eStW rfl rfl rfl rfl (by omega) ?_)
    refine tR fun _ _ _ => ?_
    refine pV ?_
    refine sV (rShrU rfl rfl rfl ⟨by omega, by omega⟩ (by omega) (by omega)) ?_
    refine pV ?_
    rw [p32]
    refine tR fun _ _ _ => ?_
    refine sV (rAdd rfl rfl rfl (by omega) (by omega)) ?_
    refine pV ?_
    refine ⟨i + 1, (l.getD i.toNat 0 + cy2) / 4294967296, o.set i.toNat ((l.getD i.toNat 0 + cy2) % 4294967296), ⟨rfl, rfl, rfl, rfl, rfl, rfl, rfl, trivial⟩, by first | exact cs _ _ | exact CSub.refl _, ?_⟩
    have ha := add_alg (x := l.getD i.toNat 0) (y := k.getD i.toNat 0) hs
    simp only [vN, Int.mul_zero, Int.add_zero] at ha
    have hk0 : k.getD i.toNat 0 = 0 := getD_out (by omega)
    have hse : l.getD i.toNat 0 + k.getD i.toNat 0 + cy2 = (l.getD i.toNat 0 + cy2) := by omega
    rw [hse] at ha
    refine ⟨⟨⟨by omega, by omega⟩, ⟨by omega, by omega⟩, by simp; omega, lm_set hol (by omega) (by omega), fun t ht => ?_, ?_⟩, by omega⟩
    ·rw [getD_set, if_neg (by omega)]; exact hz t (by omega)
    ·rw [show (i + 1).toNat = i.toNat + 1 by omega, vN_tk, vN_tk, vN_set (by omega), hz _ (by omega), Int.sub_zero]
     exact ha
  ·try simp only [zbA] at h6
   refine tE ?_
   refine tS ?_
   refine tR fun _ _ _ => ?_
   iterate 2 refine pV ?_
   refine sV (rLen rfl rfl) ?_
   refine pV ?_
   refine sV (rConvW rfl undU64 undU32 rfl (u32_wrap _)) ?_
   refine sV (rIdxW rfl rfl rfl (by omega) (by omega) (by omega)) ?_
   refine eV (eStW rfl rfl rfl rfl (by omega) ?_)
   rw [Int.emod_eq_of_lt (a := cy2) (by omega) (by omega)]
   refine tS ?_
   have hol2 : Lm (o.set ((nx : Nat) : Int).toNat cy2) := lm_set hol (by omega) (by omega)
   have hnn : ((nx : Int) + 1).toNat = (o.set ((nx : Nat) : Int).toNat cy2).length := by rw [List.length_set]; omega
   have hin : i.toNat = nx := by omega
   rw [hin, vN_all (by omega), vN_all (by omega)] at hs
   have hv : vN (o.set ((nx : Nat) : Int).toNat cy2) = vN l + vN k := by
    rw [vN_set (by omega), hz _ (by omega), Int.sub_zero, show ((nx : Nat) : Int).toNat = nx by omega]; exact hs
   refine tR fun _ _ _ => ?_
   refine pV ?_
   refine eV (eCallV rfl rfl rfl (nat_short A3 _ _ (o.set ((nx : Nat) : Int).toNat cy2) hnn hol2 (by omega) (by omega)) ⟨rfl, trivial⟩ ?_)
   refine pV ?_
   refine tr_chunks _ (ow_rx_take (lmb (vN (o.set ((nx : Nat) : Int).toNat cy2)).toNat).length _) ?_
   rw [lmb_take hol2, hv]
   exact tr_ret ⟨trivial, _, _, rfl, ⟨_, rfl, A3, rfl, rfl⟩, cs _ _, trivial, trivial⟩
theorem nat_plusL_ent : Enters Try.prog 76 := enters_of Try.func76 (by kernel_rfl) (by kernel_rfl)
theorem nat_plusL (X : Option Addr) (nx cx : Nat) (l : List Int) (hnx : nx = l.length) (hlnx : Lm l) (h9nx : nx ≤ 1000000) (Y : Option Addr) (ny cy : Nat) (k : List Int) (hny : ny = k.length) (hlny : Lm k) (h9ny : ny ≤ 1000000) (hge : ny < nx) :
  Pure Try.prog 76 #[.slice Y ny cy, .slice X nx cx] [ro Y (w32 k), ro X (w32 l)] (one (fun v ch => ∃ B, v = .slice B (lmb ((vN l + vN k).toNat)).length (lmb ((vN l + vN k).toNat)).length ∧ ch = rx B (w32 (lmb ((vN l + vN k).toNat))))) := by
 refine pure_of (args := [.slice Y ny cy, .slice X nx cx]) 59 Try.func76 rfl rfl rfl nat_plusL_ent ⟨id, id, trivial⟩ (fun w0 => ?_)
 refine tS ?_
 refine tR fun _ _ _ => ?_
 refine pV ?_
 refine tS ?_
 refine tS ?_
 refine tR fun _ _ _ => ?_
 refine pV ?_
 refine sV (rLen rfl rfl) ?_
 refine pV ?_
 refine sV (rLen rfl rfl) ?_
 refine pV ?_
 refine tC rfl (fun h1 => ?_) (fun h1 => ?_)
 ·try simp only [zbA] at h1
  refine tR fun _ _ _ => ?_
  iterate 4 refine pV ?_
  refine tS ?_
  refine tR fun _ _ _ => ?_
  refine pV ?_
  refine sV (rLen rfl rfl) ?_
  refine sV (rAdd rfl rfl rfl (by omega) (by omega)) ?_
  refine eV (eMakeW rfl rfl rfl rfl rfl (by omega) (by omega) (by omega) (fun A3 => ?_))
  refine pV ?_
  refine tS ?_
  refine tR fun _ _ _ => ?_
  refine pV ?_
  refine tS ?_
  refine tS ?_
  refine tR fun _ _ _ => ?_
  refine pV ?_
  refine sV (rLen rfl rfl) ?_
  refine pV ?_
  refine tB ?_
  refine tr_loop3 (fun (i : Int) (cy2 : Int) (o : List Int) => [(6, .int .u64 cy2), (22, .int .i64 i), (5, .slice A3 ((nx : Int) + 1).toNat ((nx : Int) + 1).toNat), (0, .slice X nx cx), (1, .slice Y ny cy), (4, .slice none 0 0), (21, .int .i64 nx)]) (fun (i : Int) (cy2 : Int) (o : List Int) => [ow A3 86 ((nx : Int) + 1).toNat (w32 o), ro X (w32 l), ro Y (w32 k)]) (fun (i : Int) (cy2 : Int) (o : List Int) => (0 ≤ i ∧ i ≤ nx) ∧ (0 ≤ cy2 ∧ cy2 ≤ 1) ∧ o.length = nx + 1 ∧ Lm o ∧ (∀ t : Nat, i ≤ t → o.getD t 0 = 0) ∧ vN o + 4294967296 ^ i.toNat * cy2 = vN (l.take i.toNat) + vN (k.take i.toNat)) (fun (i : Int) (cy2 : Int) (o : List Int) => (nx - i).toNat) (0) (0) (List.replicate ((nx : Int) + 1).toNat 0) ⟨rfl, rfl, rfl, rfl, rfl, rfl, rfl, trivial⟩ (by first | exact cs _ _ | exact CSub.refl _) (⟨⟨by omega, by omega⟩, ⟨by omega, by omega⟩, by rw [List.length_replicate]; omega, lm_rep _, fun t _ => rep_get _ _, by rw [vN_zeros]; simp [vN]⟩) (fun i cy2 o hI => ?_)
  obtain ⟨⟨hi0, hi1⟩, ⟨hc0, hc1⟩, hoL, hol, hz, hs⟩ := hI
  refine tS ?_
  refine tR fun _ _ _ => ?_
  refine pV ?_
  refine tS ?_
  refine tC rfl (fun h6 => ?_) (fun h6 => ?_)
  ·try simp only [zbA] at h6
   refine tK ?_
   refine tS ?_
   refine tB ?_
   refine tS ?_
   refine tR fun _ _ _ => ?_
   iterate 2 refine pV ?_
   refine tS ?_
   have hli := hlnx.get i.toNat
   have hki := hlny.get i.toNat
   refine tR fun _ _ _ => ?_
   iterate 2 refine pV ?_
   refine sV (rIdxW rfl rfl rfl (by omega) (by omega) (by omega)) ?_
   refine sV (rLdW rfl rfl (by omega)) ?_
   refine sV (rConv rfl undU32 undU64 rfl (IntWalk.u64_in _ ⟨by omega, by omega⟩)) ?_
   refine pV ?_
   refine sV (rAddU rfl rfl rfl (by omega) (by omega)) ?_
   refine pV ?_
   refine tS ?_
   refine tS ?_
   refine tR fun _ _ _ => ?_
   iterate 2 refine pV ?_
   refine sV (rLen rfl rfl) ?_
   refine pV ?_
   refine tC rfl (fun h9 => ?_) (fun h9 => ?_)
   ·try simp only [zbA] at h9
    refine tR fun _ _ _ => ?_
    iterate 3 refine pV ?_
    refine sV (rIdxW rfl rfl rfl (by omega) (by omega) (by omega)) ?_
    refine sV (rLdW rfl rfl (by omega)) ?_
    refine sV (rConv rfl undU32 undU64 rfl (IntWalk.u64_in _ ⟨by omega, by omega⟩)) ?_
    refine sV (rAddU rfl rfl rfl (by omega) (by omega)) ?_
    refine pV ?_
    refine tS ?_
    refine tR fun _ _ _ => ?_
    iterate 3 refine pV ?_
    refine sV (rConvW rfl undU64 undU32 rfl (u32_wrap _)) ?_
    refine sV (rIdxW rfl rfl rfl (by omega) (by omega) (by omega)) ?_
    refine eV (eStW rfl rfl rfl rfl (by omega) ?_)
    refine tR fun _ _ _ => ?_
    refine pV ?_
    refine sV (rShrU rfl rfl rfl ⟨by omega, by omega⟩ (by omega) (by omega)) ?_
    refine pV ?_
    rw [p32]
    refine tR fun _ _ _ => ?_
    refine sV (rAdd rfl rfl rfl (by omega) (by omega)) ?_
    refine pV ?_
    refine ⟨i + 1, (l.getD i.toNat 0 + cy2 + k.getD i.toNat 0) / 4294967296, o.set i.toNat ((l.getD i.toNat 0 + cy2 + k.getD i.toNat 0) % 4294967296), ⟨rfl, rfl, rfl, rfl, rfl, rfl, rfl, trivial⟩, by first | exact cs _ _ | exact CSub.refl _, ?_⟩
    have ha := add_alg (x := l.getD i.toNat 0) (y := k.getD i.toNat 0) hs
    simp only [vN, Int.mul_zero, Int.add_zero] at ha
    have hse : l.getD i.toNat 0 + k.getD i.toNat 0 + cy2 = (l.getD i.toNat 0 + cy2 + k.getD i.toNat 0) := by omega
    rw [hse] at ha
    refine ⟨⟨⟨by omega, by omega⟩, ⟨by omega, by omega⟩, by simp; omega, lm_set hol (by omega) (by omega), fun t ht => ?_, ?_⟩, by omega⟩
    ·rw [getD_set, if_neg (by omega)]; exact hz t (by omega)
    ·rw [show (i + 1).toNat = i.toNat + 1 by omega, vN_tk, vN_tk, vN_set (by omega), hz _ (by omega), Int.sub_zero]
     exact ha
   ·try simp only [zbA] at h9
    refine tK ?_
    refine tS ?_
    refine tR fun _ _ _ => ?_
    iterate 3 refine pV ?_
    refine sV (rConvW rfl undU64 undU32 rfl (u32_wrap _)) ?_
    refine sV (rIdxW rfl rfl rfl (by omega) (by omega) (by omega)) ?_
    refine eV (eStW rfl rfl rfl rfl (by omega) ?_)
    refine tR fun _ _ _ => ?_
    refine pV ?_
    refine sV (rShrU rfl rfl rfl ⟨by omega, by omega⟩ (by omega) (by omega)) ?_
    refine pV ?_
    rw [p32]
    refine tR fun _ _ _ => ?_
    refine sV (rAdd rfl rfl rfl (by omega) (by omega)) ?_
    refine pV ?_
    refine ⟨i + 1, (l.getD i.toNat 0 + cy2) / 4294967296, o.set i.toNat ((l.getD i.toNat 0 + cy2) % 4294967296), ⟨rfl, rfl, rfl, rfl, rfl, rfl, rfl, trivial⟩, by first | exact cs _ _ | exact CSub.refl _, ?_⟩
    have ha := add_alg (x := l.getD i.toNat 0) (y := k.getD i.toNat 0) hs
    simp only [vN, Int.mul_zero, Int.add_zero] at ha
    have hk0 : k.getD i.toNat 0 = 0 := getD_out (by omega)
    have hse : l.getD i.toNat 0 + k.getD i.toNat 0 + cy2 = (l.getD i.toNat 0 + cy2) := by omega
    rw [hse] at ha
    refine ⟨⟨⟨by omega, by omega⟩, ⟨by omega, by omega⟩, by simp; omega, lm_set hol (by omega) (by omega), fun t ht => ?_, ?_⟩, by omega⟩
    ·rw [getD_set, if_neg (by omega)]; exact hz t (by omega)
    ·rw [show (i + 1).toNat = i.toNat + 1 by omega, vN_tk, vN_tk, vN_set (by omega), hz _ (by omega), Int.sub_zero]
     exact ha
  ·try simp only [zbA] at h6
   refine tE ?_
   refine tS ?_
   refine tR fun _ _ _ => ?_
   iterate 2 refine pV ?_
   refine sV (rLen rfl rfl) ?_
   refine pV ?_
   refine sV (rConvW rfl undU64 undU32 rfl (u32_wrap _)) ?_
   refine sV (rIdxW rfl rfl rfl (by omega) (by omega) (by omega)) ?_
   refine eV (eStW rfl rfl rfl rfl (by omega) ?_)
   rw [Int.emod_eq_of_lt (a := cy2) (by omega) (by omega)]
   refine tS ?_
   have hol2 : Lm (o.set ((nx : Nat) : Int).toNat cy2) := lm_set hol (by omega) (by omega)
   have hnn : ((nx : Int) + 1).toNat = (o.set ((nx : Nat) : Int).toNat cy2).length := by rw [List.length_set]; omega
   have hin : i.toNat = nx := by omega
   rw [hin, vN_all (by omega), vN_all (by omega)] at hs
   have hv : vN (o.set ((nx : Nat) : Int).toNat cy2) = vN l + vN k := by
    rw [vN_set (by omega), hz _ (by omega), Int.sub_zero, show ((nx : Nat) : Int).toNat = nx by omega]; exact hs
   refine tR fun _ _ _ => ?_
   refine pV ?_
   refine eV (eCallV rfl rfl rfl (nat_short A3 _ _ (o.set ((nx : Nat) : Int).toNat cy2) hnn hol2 (by omega) (by omega)) ⟨rfl, trivial⟩ ?_)
   refine pV ?_
   refine tr_chunks _ (ow_rx_take (lmb (vN (o.set ((nx : Nat) : Int).toNat cy2)).toNat).length _) ?_
   rw [lmb_take hol2, hv]
   exact tr_ret ⟨trivial, _, _, rfl, ⟨_, rfl, A3, rfl, rfl⟩, cs _ _, trivial, trivial⟩
 ·try simp only [zbA] at h1
  omega --done
theorem nat_plus (X : Option Addr) (nx cx : Nat) (l : List Int) (hnx : nx = l.length) (hlnx : Lm l) (h9nx : nx ≤ 1000000) (Y : Option Addr) (ny cy : Nat) (k : List Int) (hny : ny = k.length) (hlny : Lm k) (h9ny : ny ≤ 1000000) : Pure Try.prog 76 #[.slice X nx cx, .slice Y ny cy] [ro X (w32 l), ro Y (w32 k)] (one (fun v ch => ∃ B, v = .slice B (lmb ((vN l + vN k).toNat)).length (lmb ((vN l + vN k).toNat)).length ∧ ch = rx B (w32 (lmb ((vN l + vN k).toNat))))) := by
 rcases Nat.lt_or_ge nx ny with h | h
 ·rw [Int.add_comm]
  exact nat_plusL Y ny cy k hny hlny h9ny X nx cx l hnx hlnx h9nx h
 ·exact nat_plusG X nx cx l hnx hlnx h9nx Y ny cy k hny hlny h9ny h
theorem nat_Cmp_ent : Enters Try.prog 77 := enters_of Try.func77 (by kernel_rfl) (by kernel_rfl)
theorem nat_Cmp (X : Option Addr) (nx cx : Nat) (l : List Int) (hnx : nx = l.length) (hlnx : Lm l) (h9nx : nx ≤ 1000000) (hcx : nx ≤ cx) (Y : Option Addr) (ny cy : Nat) (k : List Int) (hny : ny = k.length) (hlny : Lm k) (h9ny : ny ≤ 1000000) (hcy : ny ≤ cy) :
  Pure Try.prog 77 #[.slice X nx cx, .slice Y ny cy] [ro X (w32 l), ro Y (w32 k)] (isV (.int .i64 (cmpZ (vN l) (vN k)))) := by
 have hll := lmb_short hlnx
 have hkl := lmb_short hlny
 have hvl := vN_nn hlnx
 have hvk := vN_nn hlny
 have hla := vN_lmb (vN l).toNat
 have hka := vN_lmb (vN k).toNat
 have hlm := lmb_lm (vN l).toNat
 have hkm := lmb_lm (vN k).toNat
 refine pure_of (args := [.slice X nx cx, .slice Y ny cy]) 45 Try.func77 rfl rfl rfl nat_Cmp_ent ⟨id, id, trivial⟩ (fun w0 => ?_)
 refine tS ?_
 refine tR fun _ _ _ => ?_
 refine pV ?_
 refine tS ?_
 refine tR fun _ _ _ => ?_
 refine pV ?_
 refine eV (eCallV rfl rfl rfl (nat_short X nx cx l hnx hlnx (by omega) (by omega)) ⟨rfl, trivial⟩ ?_)
 refine pV ?_
 refine eV (eCallV rfl rfl rfl (nat_short Y ny cy k hny hlny (by omega) (by omega)) ⟨rfl, trivial⟩ ?_)
 iterate 2 refine pV ?_
 refine tS ?_
 refine tS ?_
 refine tR fun _ _ _ => ?_
 refine pV ?_
 refine sV (rLen rfl rfl) ?_
 refine pV ?_
 refine sV (rLen rfl rfl) ?_
 refine pV ?_
 refine tC rfl (fun h2 => ?_) (fun h2 => ?_)
 ·try simp only [zbA] at h2
  refine tS ?_
  refine tS ?_
  refine tR fun _ _ _ => ?_
  refine pV ?_
  refine sV (rLen rfl rfl) ?_
  refine pV ?_
  refine sV (rLen rfl rfl) ?_
  refine pV ?_
  refine tC rfl (fun h3 => ?_) (fun h3 => ?_)
  ·try simp only [zbA] at h3
   refine tS ?_
   refine tR fun _ _ _ => ?_
   refine pV ?_
   exact tr_ret ⟨trivial, _, _, rfl, ⟨by
    have h9 : vN l < vN k := by
     rcases Int.lt_or_le (vN l) (vN k) with g | g
     ·exact g
     ·have := lmb_mono (show (vN k).toNat ≤ (vN l).toNat by omega); omega
    rw [cmpZ, if_pos h9], rfl⟩, CSub.nil _, trivial⟩
  ·try simp only [zbA] at h3
   refine tK ?_
   refine tS ?_
   refine tR fun _ _ _ => ?_
   refine pV ?_
   exact tr_ret ⟨trivial, _, _, rfl, ⟨by
    have h9 : vN k < vN l := by
     rcases Int.lt_or_le (vN k) (vN l) with g | g
     ·exact g
     ·have := lmb_mono (show (vN l).toNat ≤ (vN k).toNat by omega); omega
    rw [cmpZ, if_neg (by omega), if_pos h9], rfl⟩, CSub.nil _, trivial⟩
 ·try simp only [zbA] at h2
  refine tK ?_
  refine tS ?_
  refine tS ?_
  refine tr_chunks _ (CSub.trans (ro_take (lmb (vN l).toNat).length _) (CSub.cons _ (ro_take (lmb (vN k).toNat).length []))) ?_
  rw [w32_take, w32_take, lmb_take hlnx, lmb_take hlny]
  refine tR fun _ _ _ => ?_
  refine pV ?_
  refine sV (rLen rfl rfl) ?_
  refine sV (rSub rfl rfl rfl (by omega) (by omega)) ?_
  refine pV ?_
  refine tB ?_
  refine tr_loop1 (fun (i : Int) => [(5, .int .i64 i), (0, .slice X (lmb (vN l).toNat).length (lmb (vN l).toNat).length), (1, .slice Y (lmb (vN k).toNat).length (lmb (vN k).toNat).length)]) (fun (i : Int) => [ro X (w32 (lmb (vN l).toNat)), ro Y (w32 (lmb (vN k).toNat))]) (fun (i : Int) => (-1 ≤ i ∧ i < (lmb (vN l).toNat).length) ∧ ∀ j : Nat, i < j → (lmb (vN l).toNat).getD j 0 = (lmb (vN k).toNat).getD j 0) (fun (i : Int) => (i + 1).toNat) (((lmb (vN l).toNat).length : Int) - 1) ⟨rfl, rfl, rfl, trivial⟩ (by first | exact cs _ _ | exact CSub.refl _) (⟨⟨by omega, by omega⟩, fun j hj => by rw [getD_out (by omega), getD_out (by omega)]⟩) (fun i hI => ?_)
  obtain ⟨⟨hi0, hi1⟩, hz⟩ := hI
  refine tS ?_
  refine tS ?_
  refine tR fun _ _ _ => ?_
  iterate 2 refine pV ?_
  refine tC rfl (fun h7 => ?_) (fun h7 => ?_)
  ·try simp only [zbA] at h7
   refine tK ?_
   refine tS ?_
   refine tB ?_
   refine tS ?_
   refine tS ?_
   refine tr_draw [0, 1, 2, 3, 4, 5, 6, 7, 8] [] mixed (by kernel_rfl) fun _ _ _ => ?_
   iterate 2 refine pV ?_
   refine sV (rIdxW rfl rfl rfl (by omega) (by omega) (by omega)) ?_
   refine sV (rLdW rfl rfl (by omega)) ?_
   iterate 2 refine pV ?_
   refine sV (rIdxW rfl rfl rfl (by omega) (by omega) (by omega)) ?_
   refine sV (rLdW rfl rfl (by omega)) ?_
   refine sV (rLssK rfl rfl rfl) ?_
   refine tC rfl (fun h9 => ?_) (fun h9 => ?_)
   ·try simp only [zbA] at h9
    refine tS ?_
    refine tR fun _ _ _ => ?_
    refine pV ?_
    exact tr_ret ⟨trivial, _, _, rfl, ⟨by
     have h9 := vN_lt2 hlm hkm i.toNat (fun j hj => hz j (by omega)) h9
     rw [cmpZ, if_pos (by omega)], rfl⟩, CSub.nil _, trivial⟩
   ·try simp only [zbA] at h9
    refine tK ?_
    refine tS ?_
    refine tr_draw [0, 1, 2, 3, 4, 5, 6, 7, 8] [] mixed (by kernel_rfl) fun _ _ _ => ?_
    iterate 2 refine pV ?_
    refine sV (rIdxW rfl rfl rfl (by omega) (by omega) (by omega)) ?_
    refine sV (rLdW rfl rfl (by omega)) ?_
    iterate 2 refine pV ?_
    refine sV (rIdxW rfl rfl rfl (by omega) (by omega) (by omega)) ?_
    refine sV (rLdW rfl rfl (by omega)) ?_
    refine sV (rGtrK rfl rfl rfl) ?_
    refine tC rfl (fun h11 => ?_) (fun h11 => ?_)
    ·try simp only [zbA] at h11
     refine tS ?_
     refine tR fun _ _ _ => ?_
     refine pV ?_
     exact tr_ret ⟨trivial, _, _, rfl, ⟨by
      have h9 := vN_lt2 hkm hlm i.toNat (fun j hj => (hz j (by omega)).symm) h11
      rw [cmpZ, if_neg (by omega), if_pos (by omega)], rfl⟩, CSub.nil _, trivial⟩
    ·try simp only [zbA] at h11
     refine tK ?_
     refine tR fun _ _ _ => ?_
     refine pV ?_
     refine sV (rSub rfl rfl rfl (by omega) (by omega)) ?_
     refine pV ?_
     refine ⟨i - 1, ⟨rfl, rfl, rfl, trivial⟩, by first | exact cs _ _ | exact CSub.refl _, ?_⟩
     refine ⟨⟨⟨by omega, by omega⟩, fun j hj => ?_⟩, by omega⟩
     by_cases h : i < (j : Int)
     ·exact hz j h
     ·rw [show j = i.toNat by omega]; omega
  ·try simp only [zbA] at h7
   refine tE ?_
   refine tS ?_
   refine tR fun _ _ _ => ?_
   refine pV ?_
   exact tr_ret ⟨trivial, _, _, rfl, ⟨by
    have h9 := vN_ext (a := lmb (vN l).toNat) (b := lmb (vN k).toNat) (fun j => hz j (by omega))
    rw [cmpZ, if_neg (by omega), if_neg (by omega)], rfl⟩, CSub.nil _, trivial⟩
theorem nat_digit_ent : Enters Try.prog 78 := enters_of Try.func78 (by kernel_rfl) (by kernel_rfl)
theorem nat_digit (X : Option Addr) (nx cx : Nat) (l : List Int) (hnx : nx = l.length) (hlnx : Lm l) (h9nx : nx ≤ 1000000) (d : Int) (hd1 : 1 ≤ d) (hd9 : d < 4294967296) :
  Pure Try.prog 78 #[.slice X nx cx, .int .u32 d] [ro X (w32 l)] (one (fun v ch => ∃ B, v = .tuple #[.slice B (lmb ((vN l / d).toNat)).length (lmb ((vN l / d).toNat)).length, .int .u32 (vN l % d)] ∧ ch = rx B (w32 (lmb ((vN l / d).toNat))))) := by
 refine pure_of (args := [.slice X nx cx, .int .u32 d]) 43 Try.func78 rfl rfl rfl nat_digit_ent ⟨id, trivial⟩ (fun w0 => ?_)
 refine tS ?_
 refine tR fun _ _ _ => ?_
 iterate 2 refine pV ?_
 refine tS ?_
 refine tR fun _ _ _ => ?_
 refine pV ?_
 refine sV (rLen rfl rfl) ?_
 refine eV (eMakeW rfl rfl rfl rfl rfl (by omega) (by omega) (by omega) (fun A1 => ?_))
 refine pV ?_
 refine tS ?_
 refine tR fun _ _ _ => ?_
 refine pV ?_
 refine tS ?_
 refine tS ?_
 refine tR fun _ _ _ => ?_
 refine pV ?_
 refine sV (rLen rfl rfl) ?_
 refine sV (rSub rfl rfl rfl (by omega) (by omega)) ?_
 refine pV ?_
 refine tB ?_
 refine tr_loop3 (fun (i : Int) (x : Int) (o : List Int) => [(7, .int .u64 x), (8, .int .i64 i), (6, .slice A1 ((nx : Nat) : Int).toNat ((nx : Nat) : Int).toNat), (0, .slice X nx cx), (1, .int .u32 d), (4, .slice none 0 0), (5, .int .u32 0)]) (fun (i : Int) (x : Int) (o : List Int) => [ow A1 86 ((nx : Nat) : Int).toNat (w32 o), ro X (w32 l)]) (fun (i : Int) (x : Int) (o : List Int) => (-1 ≤ i ∧ i < nx) ∧ (0 ≤ x ∧ x < d) ∧ ((nx : Nat) : Int).toNat = o.length ∧ Lm o ∧ hN l (i + 1).toNat = d * hN o (i + 1).toNat + x) (fun (i : Int) (x : Int) (o : List Int) => (i + 1).toNat) ((nx : Int) - 1) (0) (List.replicate ((nx : Nat) : Int).toNat 0) ⟨rfl, rfl, rfl, rfl, rfl, rfl, rfl, trivial⟩ (by first | exact cs _ _ | exact CSub.refl _) (⟨⟨by omega, by omega⟩, ⟨by omega, by omega⟩, by rw [List.length_replicate], lm_rep _, by rw [hN_out (by omega), hN_out (by rw [List.length_replicate]; omega)]; simp⟩) (fun i x o hI => ?_)
 obtain ⟨⟨hi0, hi1⟩, ⟨hr0, hr1⟩, hoL, hol, hs⟩ := hI
 refine tS ?_
 refine tS ?_
 refine tR fun _ _ _ => ?_
 iterate 2 refine pV ?_
 refine tC rfl (fun h4 => ?_) (fun h4 => ?_)
 ·try simp only [zbA] at h4
  refine tK ?_
  refine tS ?_
  refine tB ?_
  refine tS ?_
  have hpi := hlnx.get i.toNat
  have hq0 : 0 ≤ (x * 4294967296 + l.getD i.toNat 0) / d := Int.ediv_nonneg (by omega) (by omega)
  have hq9 : (x * 4294967296 + l.getD i.toNat 0) / d < 4294967296 := Int.ediv_lt_of_lt_mul (by omega) (by omega)
  have hm0 := Int.emod_nonneg (x * 4294967296 + l.getD i.toNat 0) (show d ≠ 0 by omega)
  have hm9 := Int.emod_lt_of_pos (x * 4294967296 + l.getD i.toNat 0) (show 0 < d by omega)
  refine tR fun _ _ _ => ?_
  refine pV ?_
  refine sV (rShl32 rfl rfl rfl (by omega) (by omega)) ?_
  iterate 2 refine pV ?_
  refine sV (rIdxW rfl rfl rfl (by omega) (by omega) (by omega)) ?_
  refine sV (rLdW rfl rfl (by omega)) ?_
  refine sV (rConv rfl undU32 undU64 rfl (IntWalk.u64_in _ ⟨by omega, by omega⟩)) ?_
  refine sV (rOrU rfl rfl rfl ⟨by omega, by omega⟩ ⟨by omega, by omega⟩) ?_
  refine pV ?_
  refine tS ?_
  refine tR fun _ _ _ => ?_
  iterate 4 refine pV ?_
  refine sV (rConv rfl undU32 undU64 rfl (IntWalk.u64_in _ ⟨by omega, by omega⟩)) ?_
  refine sV (rQuoU rfl rfl rfl (by omega) (by omega)) ?_
  refine sV (rConv rfl undU64 undU32 rfl (IntWalk.u32_in _ ⟨by omega, by omega⟩)) ?_
  refine sV (rIdxW rfl rfl rfl (by omega) (by omega) (by omega)) ?_
  refine eV (eStW rfl rfl rfl rfl (by omega) ?_)
  refine tR fun _ _ _ => ?_
  iterate 2 refine pV ?_
  refine sV (rConv rfl undU32 undU64 rfl (IntWalk.u64_in _ ⟨by omega, by omega⟩)) ?_
  refine sV (rRemU rfl rfl rfl (by omega) (by omega)) ?_
  refine pV ?_
  refine tR fun _ _ _ => ?_
  refine pV ?_
  refine sV (rSub rfl rfl rfl (by omega) (by omega)) ?_
  refine pV ?_
  refine ⟨i - 1, (x * 4294967296 + l.getD i.toNat 0) % d, o.set i.toNat ((x * 4294967296 + l.getD i.toNat 0) / d), ⟨rfl, rfl, rfl, rfl, rfl, rfl, rfl, trivial⟩, by first | exact cs _ _ | exact CSub.refl _, ?_⟩
  refine ⟨⟨⟨by omega, by omega⟩, ⟨by omega, by omega⟩, by rw [List.length_set]; exact hoL, lm_set hol (by omega) (by omega), ?_⟩, by omega⟩
  rw [show (i - 1 + 1).toNat = i.toNat by omega, hN_step, hN_step (o.set _ _), hN_set (by omega), getD_set, if_pos ⟨rfl, by omega⟩]
  rw [show (i + 1).toNat = i.toNat + 1 by omega] at hs
  exact small_alg hs
 ·try simp only [zbA] at h4
  refine tE ?_
  refine tS ?_
  have hiz : i = -1 := by omega
  rw [hiz, show ((-1 : Int) + 1).toNat = 0 from rfl, hN_zero, hN_zero] at hs
  have hv : vN o = vN l / d ∧ x = vN l % d := by
   rw [hs]
   constructor
   ·rw [Int.mul_add_ediv_left _ _ (by omega), Int.ediv_eq_zero_of_lt hr0 hr1, Int.add_zero]
   ·rw [Int.mul_add_emod_self_left, Int.emod_eq_of_lt hr0 hr1]
  refine tR fun _ _ _ => ?_
  refine pV ?_
  refine eV (eCallV rfl rfl rfl (nat_short A1 _ _ o hoL hol (by omega) (by omega)) ⟨rfl, trivial⟩ ?_)
  refine pV ?_
  refine sV (rConv rfl undU64 undU32 rfl (IntWalk.u32_in _ ⟨by omega, by omega⟩)) ?_
  iterate 2 refine pV ?_
  refine tr_chunks _ (ow_rx_take (lmb (vN o).toNat).length _) ?_
  rw [lmb_take hol, hv.1, hv.2]
  exact tr_ret ⟨trivial, _, _, rfl, ⟨_, rfl, A1, rfl, rfl⟩, cs _ _, trivial, trivial⟩
end Go.Proofs.Ytdkahdehodopoaa

set_option maxRecDepth 100000
namespace Go.Proofs.Ytdkahdehodopoaa
open Go.RowKit
theorem p63 : (2 : Int) ^ (63 : Int).toNat = 9223372036854775808 := by rfl
instance tySlNN : SlTy Try.prog 112 46 (.slice none 0 0) 24 := ⟨by kernel_rfl, by kernel_rfl, rfl⟩
theorem lmb_add_len {x y k : Nat} (hx : (lmb x).length ≤ k) (hy : (lmb y).length ≤ k) : (lmb (x + y)).length ≤ k + 1 := lmb_len (by
 have h1 := lmb_ge hx
 have h2 := lmb_ge hy
 rw [Nat.pow_succ]; omega)
theorem take_set_self (l : List Int) (k : Nat) (x : Int) : (l.set k x).take k = l.take k := List.take_set_of_le (Nat.le_refl _)
theorem nat_Sub_ent : Enters Try.prog 43 := enters_of Try.func43 (by kernel_rfl) (by kernel_rfl)
theorem nat_Sub (X : Option Addr) (nx cx : Nat) (l : List Int) (hnx : nx = l.length) (hlnx : Lm l) (h9nx : nx ≤ 1000000) (hcx : nx ≤ cx) (Y : Option Addr) (ny cy : Nat) (k : List Int) (hny : ny = k.length) (hlny : Lm k) (h9ny : ny ≤ 1000000) (hcy : ny ≤ cy) (hle : vN k ≤ vN l) :
  Pure Try.prog 43 #[.slice X nx cx, .slice Y ny cy] [ro X (w32 l), ro Y (w32 k)] (one (fun v ch => ∃ B, v = .tuple #[.slice B (lmb ((vN l).toNat - (vN k).toNat)).length (lmb ((vN l).toNat - (vN k).toNat)).length, .int .i64 0] ∧ ch = rx B (w32 (lmb ((vN l).toNat - (vN k).toNat))))) := by
 have hll := lmb_short hlnx
 have hlm := lmb_lm (vN l).toNat
 have hvl := vN_nn hlnx
 have hla : vN (lmb (vN l).toNat) = vN l := by rw [vN_lmb]; omega
 refine pure_of (args := [.slice X nx cx, .slice Y ny cy]) 49 Try.func43 rfl rfl rfl nat_Sub_ent ⟨id, id, trivial⟩ (fun w0 => ?_)
 refine tS ?_
 refine tR fun _ _ _ => ?_
 iterate 2 refine pV ?_
 refine tS ?_
 refine tS ?_
 refine tR fun _ _ _ => ?_
 iterate 2 refine pV ?_
 refine eV (eCallV rfl rfl rfl (nat_Cmp X nx cx l hnx hlnx (by omega) hcx Y ny cy k hny hlny (by omega) hcy) ⟨rfl, rfl, trivial⟩ ?_)
 refine pV ?_
 refine tC rfl (fun h1 => ?_) (fun h1 => ?_)
 ·try simp only [zbA] at h1
  (have := (not_congr (cmpZ_ge (a := vN l) (b := vN k))).1 (by omega); omega) --done
 ·try simp only [zbA] at h1
  refine tK ?_
  refine tS ?_
  refine tR fun _ _ _ => ?_
  refine pV ?_
  refine eV (eCall1 rfl rfl rfl (nat_Trim X nx cx l hnx hlnx (by omega) hcx) ⟨rfl, trivial⟩ ?_)
  rintro _ _ ⟨B3, c3, rfl, rfl, hc3⟩
  refine pV ?_
  refine tS ?_
  refine tR fun _ _ _ => ?_
  refine pV ?_
  refine tS ?_
  refine tS ?_
  refine tR fun _ _ _ => ?_
  refine pV ?_
  refine sV (rLen rfl rfl) ?_
  refine pV ?_
  refine tB ?_
  refine tr_loop3 (fun (i : Int) (bw : Int) (o : List Int) => [(7, .int .u64 bw), (18, .int .i64 i), (6, .slice B3 (lmb (vN l).toNat).length c3), (17, .int .i64 (lmb (vN l).toNat).length), (1, .slice Y ny cy), (4, .slice none 0 0), (5, .int .i64 0)]) (fun (i : Int) (bw : Int) (o : List Int) => [ow B3 86 c3 (w32 o), ro Y (w32 k)]) (fun (i : Int) (bw : Int) (o : List Int) => (0 ≤ i ∧ i ≤ (lmb (vN l).toNat).length) ∧ (0 ≤ bw ∧ bw ≤ 1) ∧ o.length = (lmb (vN l).toNat).length ∧ Lm o ∧ (∀ t : Nat, i ≤ t → o.getD t 0 = (lmb (vN l).toNat).getD t 0) ∧ vN (o.take i.toNat) + vN (k.take i.toNat) = vN ((lmb (vN l).toNat).take i.toNat) + 4294967296 ^ i.toNat * bw) (fun (i : Int) (bw : Int) (o : List Int) => ((lmb (vN l).toNat).length - i).toNat) (0) (0) (lmb (vN l).toNat) ⟨rfl, rfl, rfl, rfl, rfl, rfl, rfl, trivial⟩ (by first | exact cs _ _ | exact CSub.refl _) (⟨⟨by omega, by omega⟩, ⟨by omega, by omega⟩, rfl, hlm, fun t _ => rfl, by simp [vN]⟩) (fun i bw o hI => ?_)
  obtain ⟨⟨hi0, hi1⟩, ⟨hc0, hc1⟩, hoL, hol, hz, hs⟩ := hI
  refine tS ?_
  refine tR fun _ _ _ => ?_
  refine pV ?_
  refine tS ?_
  refine tC rfl (fun h6 => ?_) (fun h6 => ?_)
  ·try simp only [zbA] at h6
   refine tK ?_
   refine tS ?_
   refine tB ?_
   refine tS ?_
   refine tR fun _ _ _ => ?_
   iterate 2 refine pV ?_
   refine tS ?_
   have hli := hlm.get i.toNat
   have hki := hlny.get i.toNat
   have hoi := hz i.toNat (by omega)
   refine tR fun _ _ _ => ?_
   iterate 2 refine pV ?_
   refine sV (rIdxW rfl rfl rfl (by omega) (by omega) (by omega)) ?_
   refine sV (rLdW rfl rfl (by omega)) ?_
   refine sV (rConv rfl undU32 undU64 rfl (IntWalk.u64_in _ ⟨by omega, by omega⟩)) ?_
   refine pV ?_
   rw [hoi]
   refine sV (rSubWU rfl rfl rfl) ?_
   refine pV ?_
   refine tS ?_
   refine tS ?_
   refine tR fun _ _ _ => ?_
   iterate 2 refine pV ?_
   refine sV (rLen rfl rfl) ?_
   refine pV ?_
   refine tC rfl (fun h9 => ?_) (fun h9 => ?_)
   ·try simp only [zbA] at h9
    refine tR fun _ _ _ => ?_
    iterate 3 refine pV ?_
    refine sV (rIdxW rfl rfl rfl (by omega) (by omega) (by omega)) ?_
    refine sV (rLdW rfl rfl (by omega)) ?_
    refine sV (rConv rfl undU32 undU64 rfl (IntWalk.u64_in _ ⟨by omega, by omega⟩)) ?_
    refine sV (rSubWU rfl rfl rfl) ?_
    refine pV ?_
    refine tS ?_
    refine tR fun _ _ _ => ?_
    iterate 3 refine pV ?_
    refine sV (rConvW rfl undU64 undU32 rfl (u32_wrap _)) ?_
    refine sV (rIdxW rfl rfl rfl (by omega) (by omega) (by omega)) ?_
    refine eV (eStW rfl rfl rfl rfl (by omega) ?_)
    refine tR fun _ _ _ => ?_
    refine pV ?_
    refine sV (rShrU rfl rfl rfl ⟨by omega, by omega⟩ (by omega) (by omega)) ?_
    refine pV ?_
    rw [p63]
    refine tR fun _ _ _ => ?_
    refine sV (rAdd rfl rfl rfl (by omega) (by omega)) ?_
    refine pV ?_
    refine ⟨i + 1, ((((lmb (vN l).toNat).getD i.toNat 0 - bw) % 18446744073709551616 - k.getD i.toNat 0) % 18446744073709551616) / 9223372036854775808, o.set i.toNat (((((lmb (vN l).toNat).getD i.toNat 0 - bw) % 18446744073709551616 - k.getD i.toNat 0) % 18446744073709551616) % 4294967296), ⟨rfl, rfl, rfl, rfl, rfl, rfl, rfl, trivial⟩, by first | exact cs _ _ | exact CSub.refl _, ?_⟩
    have ha := sub_alg (x := (lmb (vN l).toNat).getD i.toNat 0) (y := k.getD i.toNat 0) hs
    simp only [vN, Int.mul_zero, Int.add_zero] at ha
    have hd1 : ((((lmb (vN l).toNat).getD i.toNat 0 - bw) % 18446744073709551616 - k.getD i.toNat 0) % 18446744073709551616) % 4294967296 = ((lmb (vN l).toNat).getD i.toNat 0 + 4294967296 - k.getD i.toNat 0 - bw) % 4294967296 := by omega
    have hd2 : ((((lmb (vN l).toNat).getD i.toNat 0 - bw) % 18446744073709551616 - k.getD i.toNat 0) % 18446744073709551616) / 9223372036854775808 = 1 - ((lmb (vN l).toNat).getD i.toNat 0 + 4294967296 - k.getD i.toNat 0 - bw) / 4294967296 := by omega
    rw [hd1, hd2]
    refine ⟨⟨⟨by omega, by omega⟩, ⟨by omega, by omega⟩, by simp; omega, lm_set hol (by omega) (by omega), fun t ht => ?_, ?_⟩, by omega⟩
    ·rw [getD_set, if_neg (by omega)]; exact hz t (by omega)
    ·rw [show (i + 1).toNat = i.toNat + 1 by omega, vN_tk, vN_tk, vN_tk, getD_set, if_pos ⟨rfl, by omega⟩, take_set_self]
     exact ha
   ·try simp only [zbA] at h9
    refine tK ?_
    refine tS ?_
    refine tR fun _ _ _ => ?_
    iterate 3 refine pV ?_
    refine sV (rConvW rfl undU64 undU32 rfl (u32_wrap _)) ?_
    refine sV (rIdxW rfl rfl rfl (by omega) (by omega) (by omega)) ?_
    refine eV (eStW rfl rfl rfl rfl (by omega) ?_)
    refine tR fun _ _ _ => ?_
    refine pV ?_
    refine sV (rShrU rfl rfl rfl ⟨by omega, by omega⟩ (by omega) (by omega)) ?_
    refine pV ?_
    rw [p63]
    refine tR fun _ _ _ => ?_
    refine sV (rAdd rfl rfl rfl (by omega) (by omega)) ?_
    refine pV ?_
    refine ⟨i + 1, (((lmb (vN l).toNat).getD i.toNat 0 - bw) % 18446744073709551616) / 9223372036854775808, o.set i.toNat ((((lmb (vN l).toNat).getD i.toNat 0 - bw) % 18446744073709551616) % 4294967296), ⟨rfl, rfl, rfl, rfl, rfl, rfl, rfl, trivial⟩, by first | exact cs _ _ | exact CSub.refl _, ?_⟩
    have hk0 : k.getD i.toNat 0 = 0 := getD_out (by omega)
    have ha := sub_alg (x := (lmb (vN l).toNat).getD i.toNat 0) (y := k.getD i.toNat 0) hs
    simp only [vN, Int.mul_zero, Int.add_zero] at ha
    have hd1 : (((lmb (vN l).toNat).getD i.toNat 0 - bw) % 18446744073709551616) % 4294967296 = ((lmb (vN l).toNat).getD i.toNat 0 + 4294967296 - k.getD i.toNat 0 - bw) % 4294967296 := by omega
    have hd2 : (((lmb (vN l).toNat).getD i.toNat 0 - bw) % 18446744073709551616) / 9223372036854775808 = 1 - ((lmb (vN l).toNat).getD i.toNat 0 + 4294967296 - k.getD i.toNat 0 - bw) / 4294967296 := by omega
    rw [hd1, hd2]
    refine ⟨⟨⟨by omega, by omega⟩, ⟨by omega, by omega⟩, by simp; omega, lm_set hol (by omega) (by omega), fun t ht => ?_, ?_⟩, by omega⟩
    ·rw [getD_set, if_neg (by omega)]; exact hz t (by omega)
    ·rw [show (i + 1).toNat = i.toNat + 1 by omega, vN_tk, vN_tk, vN_tk, getD_set, if_pos ⟨rfl, by omega⟩, take_set_self]
     exact ha
  ·try simp only [zbA] at h6
   refine tE ?_
   refine tS ?_
   have hin : i.toNat = (lmb (vN l).toNat).length := by omega
   have hos := hs
   rw [hin, vN_all (l := lmb (vN l).toNat) (by omega), vN_all (l := o) (by omega)] at hos
   have hv : (vN o).toNat = (vN l).toNat - (vN k).toNat := by
    rw [sub_end hol hlm hlny hoL (by omega) ⟨hc0, hc1⟩ hos, hla, sub_nat hlnx hlny hle]
   refine tR fun _ _ _ => ?_
   refine pV ?_
   refine eV (eCallV rfl rfl rfl (nat_short B3 _ c3 o hoL.symm hol (by omega) (by omega)) ⟨rfl, trivial⟩ ?_)
   iterate 2 refine pV ?_
   refine tr_chunks _ (ow_rx_take (lmb (vN o).toNat).length _) ?_
   rw [lmb_take hol, hv]
   exact tr_ret ⟨trivial, _, _, rfl, ⟨_, rfl, B3, rfl, rfl⟩, cs _ _, trivial, trivial⟩
theorem nat_DivMod_ent : Enters Try.prog 44 := enters_of Try.func44 (by kernel_rfl) (by kernel_rfl)
theorem nat_DivMod (X : Option Addr) (nx cx : Nat) (l : List Int) (hnx : nx = l.length) (hlnx : Lm l) (h9nx : nx ≤ 1000000) (hcx : nx ≤ cx) (Y : Option Addr) (ny cy : Nat) (k : List Int) (hny : ny = k.length) (hlny : Lm k) (h9ny : ny ≤ 1000000) (hcy : ny ≤ cy) (hk1 : 1 ≤ vN k) (hk9 : vN k < 4294967296) :
  Pure Try.prog 44 #[.slice X nx cx, .slice Y ny cy] [ro X (w32 l), ro Y (w32 k)] (one (fun v ch => ∃ B w, v = .tuple #[.slice B (lmb ((vN l).toNat / (vN k).toNat)).length (lmb ((vN l).toNat / (vN k).toNat)).length, w, .int .i64 0] ∧ ch = rx B (w32 (lmb ((vN l).toNat / (vN k).toNat))))) := by
 have hll := lmb_short hlnx
 have hvl := vN_nn hlnx
 have hlb : lmb (vN k).toNat = [vN k] := by
  rw [lmb_pos (by omega), show (vN k).toNat / 4294967296 = 0 by omega, lmb_zero]
  congr 1; omega
 have hbl : (lmb (vN k).toNat).length = 1 := by rw [hlb]; rfl
 have hla : vN (lmb (vN l).toNat) = vN l := by rw [vN_lmb]; omega
 have hlk : vN (lmb (vN k).toNat) = vN k := by rw [vN_lmb]; omega
 refine pure_of (args := [.slice X nx cx, .slice Y ny cy]) 52 Try.func44 rfl rfl rfl nat_DivMod_ent ⟨id, id, trivial⟩ (fun w0 => ?_)
 refine tS ?_
 refine tR fun _ _ _ => ?_
 iterate 3 refine pV ?_
 refine tS ?_
 refine tR fun _ _ _ => ?_
 refine pV ?_
 refine eV (eCallV rfl rfl rfl (nat_short X nx cx l hnx hlnx (by omega) (by omega)) ⟨rfl, trivial⟩ ?_)
 refine pV ?_
 refine eV (eCallV rfl rfl rfl (nat_short Y ny cy k hny hlny (by omega) (by omega)) ⟨rfl, trivial⟩ ?_)
 iterate 2 refine pV ?_
 refine tS ?_
 refine tB ?_
 refine tS ?_
 refine tr_chunks _ (CSub.trans (ro_take (lmb (vN l).toNat).length _) (CSub.cons _ (ro_take (lmb (vN k).toNat).length []))) ?_
 rw [w32_take, w32_take, lmb_take hlnx, lmb_take hlny]
 refine tR fun _ _ _ => ?_
 refine pV ?_
 refine sV (rLen rfl rfl) ?_
 iterate 2 refine pV ?_
 refine tC rfl (fun h2 => ?_) (fun h2 => ?_)
 ·try simp only [zbA] at h2
  omega --done
 ·try simp only [zbA] at h2
  refine tS ?_
  refine tR fun _ _ _ => ?_
  iterate 2 refine pV ?_
  refine eV (eCallV rfl rfl rfl (nat_Cmp X _ _ (lmb (vN l).toNat) rfl (lmb_lm _) (by omega) (Nat.le_refl _) Y _ _ (lmb (vN k).toNat) rfl (lmb_lm _) (by omega) (Nat.le_refl _)) ⟨rfl, rfl, trivial⟩ ?_)
  iterate 2 refine pV ?_
  refine tC rfl (fun h4 => ?_) (fun h4 => ?_)
  ·try simp only [zbA] at h4
   refine tS ?_
   refine tr_nilW 86 ?_
   refine tr_chunks _ (ow_rx _) ?_
   have hlt : vN l < vN k := by
    have := (not_congr (cmpZ_ge (a := vN (lmb (vN l).toNat)) (b := vN (lmb (vN k).toNat)))).1 (by omega)
    omega
   have hq0 : lmb ((vN l).toNat / (vN k).toNat) = [] := by rw [Nat.div_eq_of_lt (by omega), lmb_zero]
   refine tR fun _ _ _ => ?_
   refine pV ?_
   refine eV (eCall1 rfl rfl rfl (nat_Trim X _ _ (lmb (vN l).toNat) rfl (lmb_lm _) (by omega) (Nat.le_refl _)) ⟨rfl, trivial⟩ ?_)
   rintro _ _ ⟨B5, c5, rfl, rfl, hc5⟩
   iterate 3 refine pV ?_
   exact tr_ret ⟨trivial, _, _, rfl, ⟨_, rfl, none, _, by rw [hq0]; rfl, by rw [hq0]⟩, cs _ _, trivial, trivial⟩
  ·try simp only [zbA] at h4
   refine tS ?_
   refine tR fun _ _ _ => ?_
   refine pV ?_
   refine sV (rLen rfl rfl) ?_
   iterate 2 refine pV ?_
   refine tC rfl (fun h6 => ?_) (fun h6 => ?_)
   ·try simp only [zbA] at h6
    refine tS ?_
    have hqv : (vN (lmb (vN l).toNat) / vN k).toNat = (vN l).toNat / (vN k).toNat := by
     rw [hla]
     have e1 : vN l = (((vN l).toNat : Nat) : Int) := by omega
     have e2 : vN k = (((vN k).toNat : Nat) : Int) := by omega
     conv => lhs; rw [e1, e2]
     rw [← Int.natCast_ediv]; rfl
    have hm0 := Int.emod_nonneg (vN (lmb (vN l).toNat)) (show vN k ≠ 0 by omega)
    have hm9 := Int.emod_lt_of_pos (vN (lmb (vN l).toNat)) (show 0 < vN k by omega)
    refine tR fun _ _ _ => ?_
    iterate 2 refine pV ?_
    refine sV (rIdxW rfl rfl rfl (by omega) (by omega) (by omega)) ?_
    refine sV (rLdW rfl rfl (by omega)) ?_
    rw [show (lmb (vN k).toNat).getD (0 : Int).toNat 0 = vN k by rw [hlb]; rfl]
    refine eV (eCall1 rfl rfl rfl (nat_digit X _ _ (lmb (vN l).toNat) rfl (lmb_lm _) (by omega) (vN k) hk1 hk9) ⟨rfl, rfl, trivial⟩ ?_)
    rintro _ _ ⟨B7, rfl, rfl⟩
    iterate 5 refine pV ?_
    rw [hqv]
    refine tS ?_
    refine tR fun _ _ _ => ?_
    iterate 2 refine pV ?_
    refine sV (rConv rfl undU32 undU64 rfl (IntWalk.u64_in _ ⟨by omega, by omega⟩)) ?_
    refine eV (eCall1 rfl rfl rfl (nat_Of (vN (lmb (vN l).toNat) % vN k) (Int.emod_nonneg _ (by omega)) (by have := Int.emod_lt_of_pos (vN (lmb (vN l).toNat)) (show 0 < vN k by omega); omega)) ⟨rfl, trivial⟩ ?_)
    rintro _ _ ⟨B8, c8, rfl, rfl, hc8⟩
    iterate 3 refine pV ?_
    exact tr_ret ⟨trivial, _, _, rfl, ⟨_, rfl, B7, _, rfl, rfl⟩, cs _ _, trivial, trivial⟩
   ·try simp only [zbA] at h6
    omega --done
theorem ref_NSameT_ent : Enters Try.prog 15 := enters_of Try.func15 (by kernel_rfl) (by kernel_rfl)
theorem ref_NSameT (X : Option Addr) (nx cx : Nat) (l : List Int) (hnx : nx = l.length) (hlnx : Lm l) (h9nx : nx ≤ 1000000) (Y : Option Addr) (cy : Nat) :
  Pure Try.prog 15 #[.slice X nx cx, .slice Y nx cy] [ro X (w32 l), ro Y (w32 l)] (isV (.bool true)) := by
 refine pure_of (args := [.slice X nx cx, .slice Y nx cy]) 26 Try.func15 rfl rfl rfl ref_NSameT_ent ⟨id, id, trivial⟩ (fun w0 => ?_)
 refine tS ?_
 refine tR fun _ _ _ => ?_
 refine pV ?_
 refine tS ?_
 refine tS ?_
 refine tR fun _ _ _ => ?_
 refine pV ?_
 refine sV (rLen rfl rfl) ?_
 refine pV ?_
 refine sV (rLen rfl rfl) ?_
 refine pV ?_
 refine tC rfl (fun h1 => ?_) (fun h1 => ?_)
 ·try simp only [zbA] at h1
  exact absurd trivial h1 --done
 ·try simp only [zbA] at h1
  refine tK ?_
  refine tS ?_
  refine tS ?_
  refine tR fun _ _ _ => ?_
  refine pV ?_
  refine tB ?_
  refine tr_loop1 (fun (i : Int) => [(5, .int .i64 i), (0, .slice X nx cx), (1, .slice Y nx cy)]) (fun (i : Int) => [ro X (w32 l), ro Y (w32 l)]) (fun (i : Int) => 0 ≤ i ∧ i ≤ nx) (fun (i : Int) => (nx - i).toNat) (0) ⟨rfl, rfl, rfl, trivial⟩ (by first | exact cs _ _ | exact CSub.refl _) (⟨by omega, by omega⟩) (fun i hI => ?_)
  obtain ⟨hi0, hi1⟩ := hI
  refine tS ?_
  refine tS ?_
  refine tR fun _ _ _ => ?_
  iterate 2 refine pV ?_
  refine sV (rLen rfl rfl) ?_
  refine pV ?_
  refine tC rfl (fun h4 => ?_) (fun h4 => ?_)
  ·try simp only [zbA] at h4
   refine tK ?_
   refine tS ?_
   refine tB ?_
   refine tS ?_
   refine tr_draw [0, 1, 2, 3, 4, 5, 6, 7, 8] [] mixed (by kernel_rfl) fun _ _ _ => ?_
   iterate 2 refine pV ?_
   refine sV (rIdxW rfl rfl rfl (by omega) (by omega) (by omega)) ?_
   refine sV (rLdW rfl rfl (by omega)) ?_
   iterate 2 refine pV ?_
   refine sV (rIdxW rfl rfl rfl (by omega) (by omega) (by omega)) ?_
   refine sV (rLdW rfl rfl (by omega)) ?_
   refine sV (rNeqK rfl rfl rfl) ?_
   refine tC rfl (fun h6 => ?_) (fun h6 => ?_)
   ·try simp only [zbA] at h6
    exact absurd trivial h6 --done
   ·try simp only [zbA] at h6
    refine tK ?_
    refine tR fun _ _ _ => ?_
    refine pV ?_
    refine sV (rAdd rfl rfl rfl (by omega) (by omega)) ?_
    refine pV ?_
    refine ⟨i + 1, ⟨rfl, rfl, rfl, trivial⟩, by first | exact cs _ _ | exact CSub.refl _, ?_⟩
    exact ⟨⟨by omega, by omega⟩, by omega⟩
  ·try simp only [zbA] at h4
   refine tE ?_
   refine tS ?_
   refine tR fun _ _ _ => ?_
   refine pV ?_
   exact tr_ret ⟨trivial, _, _, rfl, ⟨rfl, rfl⟩, CSub.nil _, trivial⟩
theorem nat_Add_ent : Enters Try.prog 42 := enters_of Try.func42 (by kernel_rfl) (by kernel_rfl)
theorem nat_Add (X : Option Addr) (nx cx : Nat) (l : List Int) (hnx : nx = l.length) (hlnx : Lm l) (h9nx : nx ≤ 100000) (hcx : nx ≤ cx) (Y : Option Addr) (ny cy : Nat) (k : List Int) (hny : ny = k.length) (hlny : Lm k) (h9ny : ny ≤ 100000) (hcy : ny ≤ cy) (T : Option Addr) :
  Pure Try.prog 42 #[.slice T 2 2] [ro T [.slice X nx cx, .slice Y ny cy], ro X (w32 l), ro Y (w32 k)] (one (fun v ch => ∃ B c, v = .slice B (lmb ((vN l).toNat + (vN k).toNat)).length c ∧ ch = ow B 86 c (w32 (lmb ((vN l).toNat + (vN k).toNat))) ∧ (lmb ((vN l).toNat + (vN k).toNat)).length ≤ c)) := by
 have hll := lmb_short hlnx
 have hkl := lmb_short hlny
 have hvl := vN_nn hlnx
 have hvk := vN_nn hlny
 have hz0 : (vN (lmb 0) + vN l).toNat = (vN l).toNat := by rw [lmb_zero]; simp [vN]
 have hsl : (lmb ((vN l).toNat + (vN k).toNat)).length ≤ 100001 := lmb_add_len (by omega) (by omega)
 refine pure_of (args := [.slice T 2 2]) 19 Try.func42 rfl rfl rfl nat_Add_ent ⟨id, id, id, trivial⟩ (fun w0 => ?_)
 refine tS ?_
 refine tR fun _ _ _ => ?_
 refine pV ?_
 refine tS ?_
 refine tR fun _ _ _ => ?_
 refine pV ?_
 refine tS ?_
 refine tS ?_
 refine tr_nilW 86 ?_
 refine tr_chunks _ (ow_rx _) ?_
 refine tR fun _ _ _ => ?_
 refine pV ?_
 refine sV (rLen rfl rfl) ?_
 refine pV ?_
 refine tB ?_
 refine tr_loop3 (fun (i : Int) (B : Option Addr) (o : List Int) => [(3, .slice B o.length o.length), (8, .int .i64 i), (7, .int .i64 2), (2, .slice none 0 0), (6, .slice T 2 2)]) (fun (i : Int) (B : Option Addr) (o : List Int) => [ro X (w32 l), ro Y (w32 k), rx B (w32 o), ro T [.slice X nx cx, .slice Y ny cy]]) (fun (i : Int) (B : Option Addr) (o : List Int) => (0 ≤ i ∧ i ≤ 2) ∧ o = lmb (if i = 0 then 0 else if i = 1 then (vN l).toNat else (vN l).toNat + (vN k).toNat)) (fun (i : Int) (B : Option Addr) (o : List Int) => (2 - i).toNat) (0) (none) ([]) ⟨rfl, rfl, rfl, rfl, rfl, trivial⟩ (by first | exact cs _ _ | exact CSub.refl _) (⟨⟨by omega, by omega⟩, by rw [if_pos rfl, lmb_zero]⟩) (fun i B o hI => ?_)
 obtain ⟨⟨hi0, hi1⟩, ho⟩ := hI
 refine tS ?_
 refine tR fun _ _ _ => ?_
 refine pV ?_
 refine tS ?_
 refine tC rfl (fun h3 => ?_) (fun h3 => ?_)
 ·try simp only [zbA] at h3
  refine tK ?_
  refine tS ?_
  refine tB ?_
  refine tS ?_
  obtain ⟨Z, nz, cz, z, hnz, hlz, h9z, hcz, hvz, hTz, hch⟩ : ∃ (Z : Option Addr) (nz cz : Nat) (z : List Int), nz = z.length ∧ Lm z ∧ nz ≤ 100000 ∧ nz ≤ cz ∧ (vN z).toNat = (if i = 0 then (vN l).toNat else (vN k).toNat) ∧ ([.slice X nx cx, .slice Y ny cy] : List Value)[i.toNat]? = some (.slice Z nz cz) ∧ (∀ G, CSub (ro X (w32 l) :: ro Y (w32 k) :: G) (ro Z (w32 z) :: ro X (w32 l) :: ro Y (w32 k) :: G)) := by
   rcases (by omega : i = 0 ∨ i = 1) with rfl | rfl
   ·exact ⟨X, nx, cx, l, hnx, hlnx, by omega, hcx, by simp, rfl, fun G => ro_dup _⟩
   ·exact ⟨Y, ny, cy, k, hny, hlny, by omega, hcy, by simp, rfl, fun G => CSub.trans (CSub.cons _ (ro_dup _)) (CSub.perm (List.Perm.swap ..))⟩
  refine tr_chunks _ (hch _) ?_
  have hlo : Lm o := by rw [ho]; exact lmb_lm _
  have hvo : vN o = (((if i = 0 then 0 else if i = 1 then (vN l).toNat else (vN l).toNat + (vN k).toNat) : Nat) : Int) := by rw [ho, vN_lmb]
  have hvz2 := vN_lmb (vN z).toNat
  have hzl := lmb_short hlz
  have hol : o.length ≤ 100000 := by
   rw [ho]
   rcases (by omega : i = 0 ∨ i = 1) with rfl | rfl
   ·rw [if_pos rfl, lmb_zero]; exact Nat.zero_le _
   ·rw [if_neg (by omega), if_pos rfl]; omega
  refine tR fun _ _ _ => ?_
  refine sV (rIdx rfl rfl rfl (by omega) (by omega) (by simp; omega)) ?_
  refine sV (rLdV rfl rfl hTz) ?_
  refine pV ?_
  refine tR fun _ _ _ => ?_
  iterate 2 refine pV ?_
  refine eV (eCallV rfl rfl rfl (nat_short Z nz cz z hnz hlz (by omega) (by omega)) ⟨rfl, trivial⟩ ?_)
  refine lst_sub (ro_take (lmb (vN z).toNat).length _) ?_
  rw [w32_take, lmb_take hlz]
  refine eV (eCall1 rfl rfl rfl (nat_plus B _ _ o rfl hlo (by omega) Z _ _ (lmb (vN z).toNat) rfl (lmb_lm _) (by omega)) ⟨rfl, rfl, trivial⟩ ?_)
  rintro _ _ ⟨B5a, rfl, rfl⟩
  refine pV ?_
  refine tR fun _ _ _ => ?_
  refine sV (rAdd rfl rfl rfl (by omega) (by omega)) ?_
  refine pV ?_
  refine ⟨i + 1, B5a, lmb (vN o + vN (lmb (vN z).toNat)).toNat, ⟨rfl, rfl, rfl, rfl, rfl, trivial⟩, by first | exact cs _ _ | exact CSub.refl _, ?_⟩
  refine ⟨⟨⟨by omega, by omega⟩, ?_⟩, by omega⟩
  congr 1
  rcases (by omega : i = 0 ∨ i = 1) with rfl | rfl
  ·rw [if_pos rfl] at hvo hvz
   rw [if_neg (by omega), if_pos (by omega)]; omega
  ·rw [if_neg (by omega), if_pos rfl] at hvo
   rw [if_neg (by omega)] at hvz
   rw [if_neg (by omega), if_neg (by omega)]; omega
 ·try simp only [zbA] at h3
  refine tE ?_
  refine tS ?_
  have hi2 : i = 2 := by omega
  rw [hi2, if_neg (by omega), if_neg (by omega)] at ho
  have hlo : Lm o := by rw [ho]; exact lmb_lm _
  have hol : o.length ≤ 100001 := by rw [ho]; exact hsl
  refine tR fun _ _ _ => ?_
  refine pV ?_
  refine eV (eCall1 rfl rfl rfl (nat_Trim B _ _ o rfl hlo (by omega) (Nat.le_refl _)) ⟨rfl, trivial⟩ ?_)
  rintro _ _ ⟨B7, c7, rfl, rfl, hc7⟩
  refine pV ?_
  rw [show (vN o).toNat = (vN l).toNat + (vN k).toNat by rw [ho, vN_lmb]; rfl] at hc7 ⊢
  exact tr_ret ⟨trivial, _, _, rfl, ⟨_, rfl, B7, c7, rfl, rfl, hc7⟩, cs _ _, trivial, trivial⟩
end Go.Proofs.Ytdkahdehodopoaa

namespace Go.Proofs.Ytdkahdehodopoaa
open Go.RowKit
def bl8 (x : Nat) : Nat := if x = 0 then 0 else if x < 2 then 1 else if x < 4 then 2 else if x < 8 then 3 else if x < 16 then 4 else if x < 32 then 5 else if x < 64 then 6 else if x < 128 then 7 else 8
def bl9 (x : Nat) : Nat := if x < 256 then bl8 x else 9
def tab8 : List Int := (List.range 256).map fun i => ((bl8 i : Nat) : Int)
theorem tab8_len : tab8.length = 256 := by rw [tab8, List.length_map, List.length_range]
theorem tab8_get {i : Nat} (h : i < 256) : tab8.getD i 0 = ((bl8 i : Nat) : Int) := by
 rw [tab8, List.getD_eq_getElem?_getD, List.getElem?_map, List.getElem?_range h]; rfl
theorem bl8_le (x : Nat) : bl8 x ≤ 8 := by
 unfold bl8
 repeat' split
 all_goals omega
theorem bl9_le (x : Nat) : bl9 x ≤ 9 := by
 have := bl8_le x
 unfold bl9
 split <;> omega
theorem bl9_two {x : Nat} (h : 2 ≤ x) : 2 ≤ bl9 x := by
 unfold bl9 bl8
 repeat' split
 all_goals omega
section
variable {P : Program} {N : NB} {M : Nat → Prop} {w0 : World} {L : Fr} {F : List Chunk} {o : Oper} {x y : Operand} {t t' : TypeId}
theorem rIdxStr {s : ByteArray} {k : IntKind} {i : Int} {tab : List Int} (ho : o.op = .index t x y) (ht : P.underlying t = some .string) (hx : ev L x = some (.string s)) (hy : ev L y = some (.int k i)) (hs : (s.data.toList.map fun b => ((b.toNat : Nat) : Int)) = tab) (h0 : 0 ≤ i) (h1 : i < tab.length) : Stl P N M w0 o L F (.int .u8 (tab.getD i.toNat 0)) := fun a w hl hm => by
 subst hs
 rw [List.length_map] at h1
 have hlt : i.toNat < s.data.toList.length := by omega
 have hlt2 : i.toNat < s.size := by simpa using hlt
 have h2 : s[i.toNat]? = some (s.data.toList[i.toNat]) := by
  rw [getElem?_pos s i.toNat hlt2]; rfl
 have h3 : (s.data.toList.map fun b => ((b.toNat : Nat) : Int)).getD i.toNat 0 = ((s.data.toList[i.toNat].toNat : Nat) : Int) := by
  rw [List.getD_eq_getElem?_getD, List.getElem?_map, List.getElem?_eq_getElem hlt]; rfl
 rw [h3]
 have h4 : (Instr.index t (.string s) (.int k i)).run P w = .ok (.int .u8 ((s.data.toList[i.toNat].toNat : Nat) : Int)) w := by
  simp [Instr.index, asIntOf, run_und ht, h0, h2]
 simp only [execOp, ho, hl.eval hx, hl.eval hy, Sem.run_bind, h4, Result.andThen_ok]
 rfl
theorem rShrW {k' : IntKind} {m s : Int} (ho : o.op = .binOp .shr t x y t') (hx : ev L x = some (.int .u32 m)) (hy : ev L y = some (.int k' s)) (h1 : 0 ≤ m ∧ m ≤ 4294967295) (h3 : 0 ≤ s) (h4 : s < 32) : Stl P N M w0 o L F (.int .u32 (m / 2 ^ s.toNat)) :=
 stl_pure fun a hl => by
  have hb : IntKind.u32.bits = 32 := rfl
  have h6 : min s.toNat IntKind.u32.bits = s.toNat := by rw [hb]; omega
  have h7 : (0 : Int) ≤ 2 ^ s.toNat := Int.pow_nonneg (by omega)
  have h5 : m.fdiv (2 ^ s.toNat) = m / 2 ^ s.toNat := Int.fdiv_eq_ediv_of_nonneg _ h7
  have h8 : 0 ≤ m / 2 ^ s.toNat := Int.ediv_nonneg h1.1 h7
  have h9 : m / 2 ^ s.toNat ≤ m := Int.ediv_le_self _ h1.1
  have h10 := IntWalk.u32_in (m / 2 ^ s.toNat) ⟨h8, by omega⟩
  have hn : ¬ s < 0 := by omega
  simp only [execOp, ho, hl.eval hx, hl.eval hy, eqGuard, binOp, Op.shift, h6, h5, h10, hn]
  rfl
end
structure PwJ (W j s t : Nat) : Prop where
 eq : t * s ^ j = W
 j1 : 1 ≤ j
 s1 : 1 ≤ s
 t1 : 1 ≤ t
theorem PwJ.odd {W j s t : Nat} (h : PwJ W j s t) (ho : j % 2 = 1) : (t * s) * (s * s) ^ (j / 2) = W := by
 rw [← h.eq]
 conv => rhs; rw [show j = 1 + 2 * (j / 2) by omega]
 rw [Nat.pow_add, Nat.pow_one, Nat.pow_mul, show s ^ 2 = s * s by rw [Nat.pow_succ, Nat.pow_one], Nat.mul_assoc]
theorem PwJ.even {W j s t : Nat} (h : PwJ W j s t) (ho : j % 2 = 0) : t * (s * s) ^ (j / 2) = W := by
 rw [← h.eq]
 conv => rhs; rw [show j = 2 * (j / 2) by omega]
 rw [Nat.pow_mul, show s ^ 2 = s * s by rw [Nat.pow_succ, Nat.pow_one]]
theorem PwJ.le {W j s t : Nat} (h : PwJ W j s t) : s ≤ W ∧ t ≤ W := by
 have h1 : s ≤ s ^ j := by
  have := Nat.pow_le_pow_right h.s1 h.j1
  rwa [Nat.pow_one] at this
 have h2 : 1 ≤ s ^ j := Nat.le_trans h.s1 h1
 have h3 := h.eq
 have h4 := Nat.mul_le_mul h.t1 h1
 have h5 := Nat.mul_le_mul (Nat.le_refl t) h2
 omega
end Go.Proofs.Ytdkahdehodopoaa

set_option maxRecDepth 100000
namespace Go.Proofs.Ytdkahdehodopoaa
open Go.RowKit
theorem undStr9 : Try.prog.underlying 9 = some .string := by kernel_rfl
theorem undU8b : Try.prog.underlying 5 = some (.int .u8) := by kernel_rfl
theorem rx_ro {A : Option Addr} {vs : List Value} (F : List Chunk) : CSub (rx A vs :: F) (ro A vs :: F) := CSub.weak (c := rx A vs) (d := ro A vs) ⟨fun w h => h, fun b hb => hb, fun _ => trivial⟩ F
theorem p8 : (2 : Int) ^ (8 : Int).toNat = 256 := by rfl
theorem bits_Len32_ent : Enters Try.prog 97 := enters_of Try.func97 (by kernel_rfl) (by kernel_rfl)
theorem bits_Len32 (x : Int) (h0 : 0 ≤ x) (h9 : x ≤ 255) :
  Pure Try.prog 97 #[.int .u32 x] [] (isV (.int .i64 (bl9 x.toNat : Nat))) := by
 have hg := tab8_get (i := x.toNat) (by omega)
 have hb := bl8_le x.toNat
 have hbl : bl9 x.toNat = bl8 x.toNat := by unfold bl9; rw [if_pos (by omega)]
 refine pure_of (args := [.int .u32 x]) 19 Try.func97 rfl rfl rfl bits_Len32_ent trivial (fun w0 => ?_)
 refine tS ?_
 refine tR fun _ _ _ => ?_
 refine pV ?_
 refine tS ?_
 refine tS ?_
 refine tR fun _ _ _ => ?_
 refine pV ?_
 refine sV (rGeqK rfl rfl rfl) ?_
 refine tC rfl (fun h1 => ?_) (fun h1 => ?_)
 ·try simp only [zbA] at h1
  omega --done
 ·try simp only [zbA] at h1
  refine tK ?_
  refine tS ?_
  refine tS ?_
  refine tR fun _ _ _ => ?_
  refine pV ?_
  refine sV (rGeqK rfl rfl rfl) ?_
  refine tC rfl (fun h4 => ?_) (fun h4 => ?_)
  ·try simp only [zbA] at h4
   omega --done
  ·try simp only [zbA] at h4
   refine tK ?_
   refine tS ?_
   refine tR fun _ _ _ => ?_
   iterate 2 refine pV ?_
   refine sV (rConvW rfl undU32 undU8b rfl (IntWalk.u8_in _ ⟨by omega, by omega⟩)) ?_
   refine sV (rIdxStr (tab := tab8) rfl undStr9 rfl rfl (by kernel_rfl) (by omega) (by rw [tab8_len]; omega)) ?_
   refine sV (rConv rfl undU8b undI rfl (IntWalk.i64_in _ ⟨by omega, by omega⟩)) ?_
   refine sV (rAdd rfl rfl rfl (by omega) (by omega)) ?_
   refine pV ?_
   exact tr_ret ⟨trivial, _, _, rfl, ⟨by rw [hbl, hg]; simp, rfl⟩, CSub.nil _, trivial⟩
theorem bits_Len32H_ent : Enters Try.prog 97 := enters_of Try.func97 (by kernel_rfl) (by kernel_rfl)
theorem bits_Len32H  :
  Pure Try.prog 97 #[.int .u32 256] [] (isV (.int .i64 9)) := by
 have hg : tab8.getD (1 : Int).toNat 0 = ((bl8 1 : Nat) : Int) := tab8_get (i := 1) (by omega)
 have hb := bl8_le 1
 refine pure_of (args := [.int .u32 256]) 19 Try.func97 rfl rfl rfl bits_Len32H_ent trivial (fun w0 => ?_)
 refine tS ?_
 refine tR fun _ _ _ => ?_
 refine pV ?_
 refine tS ?_
 refine tS ?_
 refine tR fun _ _ _ => ?_
 refine pV ?_
 refine sV (rGeqK rfl rfl rfl) ?_
 refine tC rfl (fun h1 => ?_) (fun h1 => ?_)
 ·try simp only [zbA] at h1
  omega --done
 ·try simp only [zbA] at h1
  refine tK ?_
  refine tS ?_
  refine tS ?_
  refine tR fun _ _ _ => ?_
  refine pV ?_
  refine sV (rGeqK rfl rfl rfl) ?_
  refine tC rfl (fun h4 => ?_) (fun h4 => ?_)
  ·try simp only [zbA] at h4
   refine tS ?_
   refine tR fun _ _ _ => ?_
   refine pV ?_
   refine sV (rShrW rfl rfl rfl ⟨by omega, by omega⟩ (by omega) (by omega)) ?_
   refine pV ?_
   rw [p8, show (256 : Int) / 256 = 1 from rfl]
   refine tR fun _ _ _ => ?_
   refine pV ?_
   refine sV (rAdd rfl rfl rfl (by omega) (by omega)) ?_
   refine pV ?_
   refine tS ?_
   refine tR fun _ _ _ => ?_
   iterate 2 refine pV ?_
   refine sV (rConvW rfl undU32 undU8b rfl (IntWalk.u8_in _ ⟨by omega, by omega⟩)) ?_
   refine sV (rIdxStr (tab := tab8) rfl undStr9 rfl rfl (by kernel_rfl) (by omega) (by rw [tab8_len]; omega)) ?_
   refine sV (rConv rfl undU8b undI rfl (IntWalk.i64_in _ ⟨by omega, by omega⟩)) ?_
   refine sV (rAdd rfl rfl rfl (by omega) (by omega)) ?_
   refine pV ?_
   exact tr_ret ⟨trivial, _, _, rfl, ⟨by rw [hg]; rfl, rfl⟩, CSub.nil _, trivial⟩
  ·try simp only [zbA] at h4
   omega --done
theorem bits_Len32A (x : Int) (h0 : 0 ≤ x) (h9 : x ≤ 256) : Pure Try.prog 97 #[.int .u32 x] [] (isV (.int .i64 (bl9 x.toNat : Nat))) := by
 by_cases h : x ≤ 255
 ·exact bits_Len32 x h0 h
 ·obtain rfl : x = 256 := by omega
  exact bits_Len32H
theorem nat_Bits_ent : Enters Try.prog 72 := enters_of Try.func72 (by kernel_rfl) (by kernel_rfl)
theorem nat_Bits (X : Option Addr) (nx cx : Nat) (l : List Int) (hnx : nx = l.length) (hlnx : Lm l) (h9nx : nx ≤ 1000000) (hcx : nx ≤ cx) (ha : vN l ≤ 256) :
  Pure Try.prog 72 #[.slice X nx cx] [ro X (w32 l)] (isV (.int .i64 (bl9 (vN l).toNat : Nat))) := by
 have hll := lmb_short hlnx
 have hvl := vN_nn hlnx
 have hlb : 1 ≤ (vN l).toNat → lmb (vN l).toNat = [vN l] := fun h => by
  rw [lmb_pos (by omega), show (vN l).toNat / 4294967296 = 0 by omega, lmb_zero]
  congr 1; omega
 have hb9 := bl9_le (vN l).toNat
 refine pure_of (args := [.slice X nx cx]) 20 Try.func72 rfl rfl rfl nat_Bits_ent ⟨id, trivial⟩ (fun w0 => ?_)
 refine tS ?_
 refine tR fun _ _ _ => ?_
 refine pV ?_
 refine tS ?_
 refine tR fun _ _ _ => ?_
 refine pV ?_
 refine eV (eCallV rfl rfl rfl (nat_short X nx cx l hnx hlnx (by omega) (by omega)) ⟨rfl, trivial⟩ ?_)
 refine pV ?_
 refine tS ?_
 refine tS ?_
 refine tR fun _ _ _ => ?_
 refine pV ?_
 refine sV (rLen rfl rfl) ?_
 refine pV ?_
 refine tC rfl (fun h2 => ?_) (fun h2 => ?_)
 ·try simp only [zbA] at h2
  refine tS ?_
  refine tR fun _ _ _ => ?_
  refine pV ?_
  exact tr_ret ⟨trivial, _, _, rfl, ⟨by rw [show (vN l).toNat = 0 from lmb_nil.1 (by omega)]; rfl, rfl⟩, CSub.nil _, trivial⟩
 ·try simp only [zbA] at h2
  refine tK ?_
  refine tS ?_
  refine tr_chunks _ (ro_take (lmb (vN l).toNat).length []) ?_
  rw [w32_take, lmb_take hlnx]
  have hv1 : 1 ≤ (vN l).toNat := Nat.one_le_iff_ne_zero.2 fun e => by rw [e, lmb_zero] at h2; exact absurd rfl h2
  have hlb1 := hlb hv1
  have hl1 : (lmb (vN l).toNat).length = 1 := by rw [hlb1]; rfl
  refine tR fun _ _ _ => ?_
  refine pV ?_
  refine sV (rLen rfl rfl) ?_
  refine sV (rSub rfl rfl rfl (by omega) (by omega)) ?_
  refine sV (rMul rfl rfl rfl (by omega) (by omega)) ?_
  iterate 2 refine pV ?_
  refine sV (rLen rfl rfl) ?_
  refine sV (rSub rfl rfl rfl (by omega) (by omega)) ?_
  refine sV (rIdxW rfl rfl rfl (by omega) (by omega) (by omega)) ?_
  refine sV (rLdW rfl rfl (by omega)) ?_
  rw [show (lmb (vN l).toNat).getD (((lmb (vN l).toNat).length : Int) - 1).toNat 0 = vN l by rw [hl1, hlb1]; rfl]
  refine eV (eCallV rfl rfl rfl (bits_Len32A (vN l) (by omega) ha) ⟨rfl, trivial⟩ ?_)
  refine sV (rAdd rfl rfl rfl (by omega) (by omega)) ?_
  refine pV ?_
  exact tr_ret ⟨trivial, _, _, rfl, ⟨by rw [hl1]; simp, rfl⟩, CSub.nil _, trivial⟩
theorem nat_Pow_ent : Enters Try.prog 39 := enters_of Try.func39 (by kernel_rfl) (by kernel_rfl)
theorem nat_Pow (X : Option Addr) (nx cx : Nat) (l : List Int) (hnx : nx = l.length) (hlnx : Lm l) (h9nx : nx ≤ 1000000) (hcx : nx ≤ cx) (ha : vN l ≤ 256) (ha2 : 2 ≤ vN l) (n : Int) (hn1 : 1 ≤ n) (hn9 : n ≤ 256) :
  Pure Try.prog 39 #[.slice X nx cx, .int .i64 n] [ro X (w32 l)] (one (fun v ch => ∃ B c, v = .tuple #[.slice B (lmb ((vN l).toNat ^ n.toNat)).length c, .int .i64 0] ∧ ch = ow B 86 c (w32 (lmb ((vN l).toNat ^ n.toNat))) ∧ (lmb ((vN l).toNat ^ n.toNat)).length ≤ c)) := by
 have hll := lmb_short hlnx
 have hvl := vN_nn hlnx
 have hlb : 1 ≤ (vN l).toNat → lmb (vN l).toNat = [vN l] := fun h => by
  rw [lmb_pos (by omega), show (vN l).toNat / 4294967296 = 0 by omega, lmb_zero]
  congr 1; omega
 have hb9 := bl9_le (vN l).toNat
 have hb2 := bl9_two (x := (vN l).toNat) (by omega)
 have hmu : ((bl9 (vN l).toNat : Nat) : Int) - 1 ≤ 8 ∧ 0 ≤ ((bl9 (vN l).toNat : Nat) : Int) - 1 := by omega
 have hm0 : 0 ≤ (((bl9 (vN l).toNat : Nat) : Int) - 1) * n := Int.mul_nonneg hmu.2 (by omega)
 have hm9 : (((bl9 (vN l).toNat : Nat) : Int) - 1) * n ≤ 8 * 256 := Int.mul_le_mul hmu.1 (by omega) (by omega) (by omega)
 have hpl := pow_len (a := (vN l).toNat) (e := n.toNat) (by omega) (by omega)
 refine pure_of (args := [.slice X nx cx, .int .i64 n]) 55 Try.func39 rfl rfl rfl nat_Pow_ent ⟨id, trivial⟩ (fun w0 => ?_)
 refine tS ?_
 refine tR fun _ _ _ => ?_
 iterate 2 refine pV ?_
 refine tS ?_
 refine tS ?_
 refine tR fun _ _ _ => ?_
 iterate 2 refine pV ?_
 refine tC rfl (fun h1 => ?_) (fun h1 => ?_)
 ·try simp only [zbA] at h1
  omega --done
 ·try simp only [zbA] at h1
  refine tK ?_
  refine tS ?_
  refine tR fun _ _ _ => ?_
  refine pV ?_
  refine eV (eCallV rfl rfl rfl (nat_Bits X nx cx l hnx hlnx (by omega) hcx ha) ⟨rfl, trivial⟩ ?_)
  refine pV ?_
  refine tS ?_
  refine tB ?_
  refine tS ?_
  refine tR fun _ _ _ => ?_
  iterate 3 refine pV ?_
  refine stg rfl rfl rfl rfl rfl (fun hb => by (have hq := hb; try simp only [zbA] at hq); exact rMove rfl rfl) ?_
  refine stg rfl rfl rfl rfl rfl (fun hb => by (have hq := hb; try simp only [zbA] at hq); exact rEql rfl (evg rfl hb) rfl) ?_
  refine sV (rOrB rfl rfl rfl rfl) ?_
  refine pV ?_
  refine tC rfl (fun h4 => ?_) (fun h4 => ?_)
  ·try simp only [zbA] at h4
   first | omega | (simp at h4; omega) --done
  ·try simp only [zbA] at h4
   refine tS ?_
   refine tR fun _ _ _ => ?_
   iterate 3 refine pV ?_
   refine tC rfl (fun h6 => ?_) (fun h6 => ?_)
   ·try simp only [zbA] at h6
    omega --done
   ·try simp only [zbA] at h6
    refine tS ?_
    refine tR fun _ _ _ => ?_
    iterate 3 refine pV ?_
    refine stg rfl rfl rfl rfl rfl (fun hb => by (have hq := hb; try simp only [zbA] at hq); exact rMove rfl rfl) ?_
    refine stg rfl rfl rfl rfl rfl (fun hb => by (have hq := hb; try simp only [zbA] at hq); exact rSub rfl (evg rfl hb) rfl (by omega) (by omega)) ?_
    refine stg rfl rfl rfl rfl rfl (fun hb => by (have hq := hb; try simp only [zbA] at hq); exact rMove rfl rfl) ?_
    refine stg rfl rfl rfl rfl rfl (fun hb => by (have hq := hb; try simp only [zbA] at hq); exact rMul rfl (evg rfl hb) (evg rfl hb) (by omega) (by omega)) ?_
    refine stg rfl rfl rfl rfl rfl (fun hb => by (have hq := hb; try simp only [zbA] at hq); exact rGeq rfl (evg rfl hb) rfl) ?_
    refine sV (rOrB rfl rfl rfl rfl) ?_
    refine pV ?_
    refine tC rfl (fun h8 => ?_) (fun h8 => ?_)
    ·try simp only [zbA] at h8
     first | omega | (simp at h8; omega) --done
    ·try simp only [zbA] at h8
     refine tK ?_
     refine tS ?_
     refine tR fun _ _ _ => ?_
     refine eV (eLit1W rfl rfl rfl rfl (fun A10 => ?_))
     refine pV ?_
     refine eV (eCallV rfl rfl rfl (nat_short X nx cx l hnx hlnx (by omega) (by omega)) ⟨rfl, trivial⟩ ?_)
     iterate 2 refine pV ?_
     refine tr_chunks _ (CSub.trans (ow_rx _) (CSub.cons _ (ro_take (lmb (vN l).toNat).length []))) ?_
     rw [w32_take, lmb_take hlnx]
     refine tS ?_
     refine tB ?_
     refine tr_loop7 (fun (j : Int) (B : Option Addr) (o : List Int) (Z : Option Addr) (z : List Int) (s : Nat) (t : Nat) => [(1, .int .i64 j), (7, .slice B o.length o.length), (8, .slice Z z.length z.length), (4, .slice none 0 0), (5, .int .i64 0)]) (fun (j : Int) (B : Option Addr) (o : List Int) (Z : Option Addr) (z : List Int) (s : Nat) (t : Nat) => [rx B (w32 o), ro Z (w32 z)]) (fun (j : Int) (B : Option Addr) (o : List Int) (Z : Option Addr) (z : List Int) (s : Nat) (t : Nat) => (1 ≤ j ∧ j ≤ n) ∧ o = lmb t ∧ z = lmb s ∧ PwJ ((vN l).toNat ^ n.toNat) j.toNat s t) (fun (j : Int) (B : Option Addr) (o : List Int) (Z : Option Addr) (z : List Int) (s : Nat) (t : Nat) => j.toNat) (n) (A10) ([1]) (X) (lmb (vN l).toNat) ((vN l).toNat) (1) ⟨rfl, rfl, rfl, rfl, rfl, trivial⟩ (by first | exact cs _ _ | exact CSub.refl _) (⟨⟨by omega, by omega⟩, lmb_one.symm, rfl, ⟨Nat.one_mul _, by omega, by omega, Nat.le_refl _⟩⟩) (fun j B o Z z s t hI => ?_)
     obtain ⟨⟨hj0, hj9⟩, ho, hz, hJ⟩ := hI
     refine tB ?_
     refine tS ?_
     refine tS ?_
     have hlo : Lm o := by rw [ho]; exact lmb_lm _
     have hlz : Lm z := by rw [hz]; exact lmb_lm _
     have hvo : vN o = (t : Int) := by rw [ho, vN_lmb]
     have hvz : vN z = (s : Int) := by rw [hz, vN_lmb]
     have hol : o.length ≤ 65 := by rw [ho]; exact Nat.le_trans (lmb_mono hJ.le.2) hpl
     have hzl : z.length ≤ 65 := by rw [hz]; exact Nat.le_trans (lmb_mono hJ.le.1) hpl
     have htz : (vN o * vN z).toNat = t * s := by rw [hvo, hvz, ← Int.natCast_mul]; rfl
     have hss : (vN z * vN z).toNat = s * s := by rw [hvz, ← Int.natCast_mul]; rfl
     have hj2 : (j / 2).toNat = j.toNat / 2 := by omega
     have hs1 := hJ.s1
     have ht1 := hJ.t1
     have hs2 := Nat.mul_le_mul hs1 hs1
     have ht2 := Nat.mul_le_mul ht1 hs1
     by_cases hjo : j % 2 = 1
     ·refine tR fun _ _ _ => ?_
      refine pV ?_
      refine sV (rAnd1 rfl rfl rfl ⟨by omega, by omega⟩) ?_
      refine pV ?_
      refine tC rfl (fun h11 => ?_) (fun h11 => ?_)
      ·try simp only [zbA] at h11
       refine tR fun _ _ _ => ?_
       iterate 2 refine pV ?_
       refine eV (eCall1 rfl rfl rfl (nat_times B _ _ o rfl hlo (by omega) Z _ _ z rfl hlz (by omega)) ⟨rfl, rfl, trivial⟩ ?_)
       rintro _ _ ⟨B12, rfl, rfl⟩
       refine pV ?_
       refine tS ?_
       refine tR fun _ _ _ => ?_
       refine pV ?_
       refine sV (rShr1 rfl rfl rfl ⟨by omega, by omega⟩) ?_
       refine pV ?_
       refine tS ?_
       refine tS ?_
       refine tR fun _ _ _ => ?_
       iterate 2 refine pV ?_
       refine tC rfl (fun h14 => ?_) (fun h14 => ?_)
       ·try simp only [zbA] at h14
        refine tE ?_
        refine tS ?_
        refine tS ?_
        have hj1 : j = 1 := by omega
        have hE := hJ.odd (by omega)
        rw [show j.toNat / 2 = 0 by omega, Nat.pow_zero, Nat.mul_one, ← htz] at hE
        have htl : (lmb (vN o * vN z).toNat).length ≤ 65 := by rw [hE]; exact hpl
        refine tR fun _ _ _ => ?_
        refine pV ?_
        refine sV (rLen rfl rfl) ?_
        refine pV ?_
        refine tC rfl (fun h16 => ?_) (fun h16 => ?_)
        ·try simp only [zbA] at h16
         omega --done
        ·try simp only [zbA] at h16
         refine tK ?_
         refine tS ?_
         refine tR fun _ _ _ => ?_
         refine pV ?_
         refine eV (eCall1 rfl rfl rfl (nat_Trim B12 _ _ (lmb (vN o * vN z).toNat) rfl (lmb_lm _) (by omega) (Nat.le_refl _)) ⟨rfl, trivial⟩ ?_)
         rintro _ _ ⟨B18, c18, rfl, rfl, hc18⟩
         iterate 2 refine pV ?_
         rw [lmb_self, hE] at hc18 ⊢
         exact tr_ret ⟨trivial, _, _, rfl, ⟨_, rfl, B18, c18, rfl, rfl, hc18⟩, cs _ _, trivial, trivial⟩
       ·try simp only [zbA] at h14
        refine tK ?_
        refine tR fun _ _ _ => ?_
        iterate 2 refine pV ?_
        refine eV (eCall1 rfl rfl rfl (nat_times Z _ _ z rfl hlz (by omega) Z _ _ z rfl hlz (by omega)) ⟨rfl, rfl, trivial⟩ ?_)
        rintro _ _ ⟨B15, rfl, rfl⟩
        refine pV ?_
        refine ⟨j / 2, B12, lmb (vN o * vN z).toNat, B15, lmb (vN z * vN z).toNat, s * s, t * s, ⟨rfl, rfl, rfl, rfl, rfl, trivial⟩, by exact CSub.trans (rx_ro _) (by first | exact cs _ _ | exact CSub.refl _), ?_⟩
        exact ⟨⟨⟨by omega, by omega⟩, by rw [htz], by rw [hss], ⟨by rw [hj2]; exact hJ.odd (by omega), by omega, by omega, by omega⟩⟩, by omega⟩
      ·try simp only [zbA] at h11
       omega --done
     ·refine tR fun _ _ _ => ?_
      refine pV ?_
      refine sV (rAnd1 rfl rfl rfl ⟨by omega, by omega⟩) ?_
      refine pV ?_
      refine tC rfl (fun h11 => ?_) (fun h11 => ?_)
      ·try simp only [zbA] at h11
       omega --done
      ·try simp only [zbA] at h11
       refine tK ?_
       refine tS ?_
       refine tR fun _ _ _ => ?_
       refine pV ?_
       refine sV (rShr1 rfl rfl rfl ⟨by omega, by omega⟩) ?_
       refine pV ?_
       refine tS ?_
       refine tS ?_
       refine tR fun _ _ _ => ?_
       iterate 2 refine pV ?_
       refine tC rfl (fun h14 => ?_) (fun h14 => ?_)
       ·try simp only [zbA] at h14
        omega --done
       ·try simp only [zbA] at h14
        refine tK ?_
        refine tR fun _ _ _ => ?_
        iterate 2 refine pV ?_
        refine eV (eCall1 rfl rfl rfl (nat_times Z _ _ z rfl hlz (by omega) Z _ _ z rfl hlz (by omega)) ⟨rfl, rfl, trivial⟩ ?_)
        rintro _ _ ⟨B15, rfl, rfl⟩
        refine pV ?_
        refine ⟨j / 2, B, o, B15, lmb (vN z * vN z).toNat, s * s, t, ⟨rfl, rfl, rfl, rfl, rfl, trivial⟩, by exact CSub.trans (rx_ro _) (by first | exact cs _ _ | exact CSub.refl _), ?_⟩
        exact ⟨⟨⟨by omega, by omega⟩, ho, by rw [hss], ⟨by rw [hj2]; exact hJ.even (by omega), by omega, by omega, by omega⟩⟩, by omega⟩
end Go.Proofs.Ytdkahdehodopoaa

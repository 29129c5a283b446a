/-
  FACTORCOUNTED, PART 5 OF 8. One sentence: the texts behind the law FactorCounted, put together.
  Conditions: each theorem's own, written out in it.
-/
import Derived.Test.YtdkahdehodopoaaK4
set_option linter.unusedSimpArgs false
set_option linter.unusedVariables false
set_option linter.unusedSectionVars false
namespace Go.Proofs.Ytdkahdehodopoaa
theorem PrF.nil {n : Nat} (h : PrF n []) : n = 1 := h.prod.symm
theorem PrF.tail {n : Nat} {q : Int × Int} {ps : List (Int × Int)} (h : PrF n (q :: ps)) : PrF (fprod ps) ps ∧ ¬ q.1.toNat ∣ fprod ps := by
 have he : ∀ x ∈ ps, isPr x.1.toNat ∧ 0 ≤ x.1 ∧ 1 ≤ x.2 := fun x hx => h.each x (List.mem_cons_of_mem _ hx)
 have hs := List.pairwise_cons.1 h.srt
 refine ⟨⟨he, hs.2, rfl⟩, fun hd => ?_⟩
 have hq := h.each q (List.mem_cons_self ..)
 obtain ⟨x, hx, e⟩ := pr_fprod hq.1 he hd
 have := hs.1 x hx
 omega
theorem PrF.head_le {n : Nat} {q x : Int × Int} {ps : List (Int × Int)} (h : PrF n (q :: ps)) (hx : x ∈ q :: ps) : q.1 ≤ x.1 := by
 rcases List.mem_cons.1 hx with rfl | hx
 ·exact Int.le_refl _
 ·have := (List.pairwise_cons.1 h.srt).1 x hx
  omega
theorem PrF.head_dvd {n : Nat} {q : Int × Int} {ps : List (Int × Int)} (h : PrF n (q :: ps)) : q.1.toNat ∣ n := by
 rw [← h.prod]
 exact fprod_dvd (List.mem_cons_self ..) (h.each q (List.mem_cons_self ..)).2.2
theorem cut_pow {r a b A B : Nat} (hr : 2 ≤ r) (hA : ¬ r ∣ A) (hB : ¬ r ∣ B) (h : r ^ a * A = r ^ b * B) : a = b ∧ A = B := by
 have key : ∀ {a b A B : Nat}, ¬ r ∣ A → r ^ a * A = r ^ b * B → b ≤ a → False ∨ True := fun _ _ _ => .inr trivial
 rcases Nat.lt_trichotomy a b with g | g | g
 ·exfalso
  obtain ⟨c, rfl⟩ : ∃ c, b = a + (c + 1) := ⟨b - a - 1, by omega⟩
  rw [Nat.pow_add, Nat.mul_assoc] at h
  have h1 := Nat.eq_of_mul_eq_mul_left (Nat.pow_pos (by omega)) h
  exact hA (by rw [h1, Nat.pow_succ, Nat.mul_comm (r ^ c), Nat.mul_assoc]; exact Nat.dvd_mul_right ..)
 ·subst g
  exact ⟨rfl, Nat.eq_of_mul_eq_mul_left (Nat.pow_pos (by omega)) h⟩
 ·exfalso
  obtain ⟨c, rfl⟩ : ∃ c, a = b + (c + 1) := ⟨a - b - 1, by omega⟩
  rw [Nat.pow_add, Nat.mul_assoc] at h
  have h1 := Nat.eq_of_mul_eq_mul_left (Nat.pow_pos (by omega)) h
  exact hB (by rw [← h1, Nat.pow_succ, Nat.mul_comm (r ^ c), Nat.mul_assoc]; exact Nat.dvd_mul_right ..)
theorem PrF.uniq : ∀ {ps qs : List (Int × Int)} {n : Nat}, PrF n ps → PrF n qs → ps = qs
 | [], [], _, _, _ => rfl
 | [], q :: qs, n, h, k => by
  have h1 := h.nil
  subst h1
  have h2 := k.head_dvd
  have h3 := (k.each q (List.mem_cons_self ..)).1.1
  have := Nat.le_of_dvd (by omega) h2
  omega
 | p :: ps, [], n, h, k => by
  have h1 := k.nil
  subst h1
  have h2 := h.head_dvd
  have h3 := (h.each p (List.mem_cons_self ..)).1.1
  have := Nat.le_of_dvd (by omega) h2
  omega
 | p :: ps, q :: qs, n, h, k => by
  have hp := h.each p (List.mem_cons_self ..)
  have hq := k.each q (List.mem_cons_self ..)
  obtain ⟨x, hx, ex⟩ := pr_fprod hp.1 k.each (by rw [k.prod]; exact h.head_dvd)
  obtain ⟨y, hy, ey⟩ := pr_fprod hq.1 h.each (by rw [h.prod]; exact k.head_dvd)
  have h1 := k.head_le hx
  have h2 := h.head_le hy
  have e1 : p.1 = q.1 := by omega
  obtain ⟨t1, n1⟩ := h.tail
  obtain ⟨t2, n2⟩ := k.tail
  have e2 : p.1.toNat ^ p.2.toNat * fprod ps = p.1.toNat ^ q.2.toNat * fprod qs := by
   have a := h.prod
   have b := k.prod
   rw [fprod] at a b
   rw [a, e1, b]
  obtain ⟨e3, e4⟩ := cut_pow hp.1.1 n1 (by rw [e1]; exact n2) e2
  rw [e4] at t1
  rw [PrF.uniq t1 t2, show p = q from Prod.ext e1 (by omega)]
def prB (r : Nat) : Bool := decide (2 ≤ r) && (List.range r).all fun u => decide (u < 2) || decide (r % u ≠ 0)
theorem prB_ok {r : Nat} (h : prB r = true) : isPr r := by
 simp only [prB, Bool.and_eq_true, decide_eq_true_eq, List.all_eq_true, List.mem_range, Bool.or_eq_true] at h
 refine ⟨h.1, fun u h1 h2 => ?_⟩
 have h3 := Nat.le_of_dvd (by omega) h2
 rcases Nat.lt_or_eq_of_le h3 with g | g
 ·rcases h.2 u g with e | e
  ·omega
  ·exact absurd (Nat.mod_eq_zero_of_dvd h2) e
 ·exact g
def expB (n d : Nat) : Nat := ((List.range 9).filter fun k => decide (1 ≤ k) && decide (n % d ^ k = 0)).length
def facB (n : Nat) : List (Int × Int) := ((List.range (n + 1)).filter fun d => decide (2 ≤ d) && decide (n % d = 0) && prB d).map fun d => (((d : Nat) : Int), ((expB n d : Nat) : Int))
def srtB : List (Int × Int) → Bool
 | [] => true
 | q :: ps => (ps.all fun x => decide (q.1 < x.1)) && srtB ps
theorem srtB_ok : ∀ {ps : List (Int × Int)}, srtB ps = true → ps.Pairwise fun x y => x.1 < y.1
 | [], _ => .nil
 | q :: ps, h => by
  rw [srtB, Bool.and_eq_true, List.all_eq_true] at h
  exact List.pairwise_cons.2 ⟨fun x hx => of_decide_eq_true (h.1 x hx), srtB_ok h.2⟩
def okB (n : Nat) : Bool := (facB n).all (fun q => prB q.1.toNat && decide (0 ≤ q.1) && decide (1 ≤ q.2)) && srtB (facB n) && decide (fprod (facB n) = n)
theorem okB_ok {n : Nat} (h : okB n = true) : PrF n (facB n) := by
 simp only [okB, Bool.and_eq_true, List.all_eq_true, decide_eq_true_eq] at h
 exact ⟨fun q hq => ⟨prB_ok (h.1.1 q hq).1.1, (h.1.1 q hq).1.2, (h.1.1 q hq).2⟩, srtB_ok h.1.2, h.2⟩
theorem allB : ((List.range 257).all fun n => n == 0 || okB n) = true := by decide +kernel
theorem facB_ok {n : Nat} (h1 : 1 ≤ n) (h9 : n ≤ 256) : PrF n (facB n) := by
 have h := List.all_eq_true.1 allB n (List.mem_range.2 (by omega))
 rw [Bool.or_eq_true] at h
 rcases h with h | h
 ·have := eq_of_beq h; omega
 ·exact okB_ok h
theorem facB_eq {n : Nat} (h1 : 1 ≤ n) (h9 : n ≤ 256) {ps : List (Int × Int)} (h : PrF n ps) : ps = facB n := h.uniq (facB_ok h1 h9)
def muL (ps : List (Int × Int)) : Int := if ps.all (fun q => decide (q.2 ≤ 1)) then (if ps.length % 2 = 0 then 1 else -1) else 0
def muB (n : Nat) : Int := muL (facB n)
end Go.Proofs.Ytdkahdehodopoaa

set_option maxRecDepth 100000
namespace Go.Proofs.Ytdkahdehodopoaa
open Go.RowKit
theorem num_Moebius_ent : Enters Try.prog 38 := enters_of Try.func38 (by kernel_rfl) (by kernel_rfl)
theorem num_Moebius (n : Int) (hn1 : 1 ≤ n) (hn9 : n ≤ 256) :
  Pure Try.prog 38 #[.int .i64 n] [] (isV (.tuple #[.int .i64 (muB n.toNat), .int .i64 0])) := by
 refine pure_of (args := [.int .i64 n]) 30 Try.func38 rfl rfl rfl num_Moebius_ent trivial (fun w0 => ?_)
 refine tS ?_
 refine tR fun _ _ _ => ?_
 iterate 2 refine pV ?_
 refine tS ?_
 refine tR fun _ _ _ => ?_
 refine pV ?_
 refine eV (eCall1 rfl rfl rfl (num_FactorX n hn1 hn9) ⟨rfl, trivial⟩ ?_)
 rintro _ _ ⟨B1, c1, ps, rfl, rfl, hprf, hpl⟩
 iterate 5 refine pV ?_
 have hfb := facB_eq (n := n.toNat) (by omega) (by omega) hprf
 refine tS ?_
 refine tS ?_
 refine tR fun _ _ _ => ?_
 iterate 2 refine pV ?_
 refine tC rfl (fun h2 => ?_) (fun h2 => ?_)
 ·try simp only [zbA] at h2
  first | exact absurd trivial h2 | exact absurd rfl h2 | omega | (exact absurd h2 (by simp)) --done
 ·try simp only [zbA] at h2
  refine tK ?_
  refine tS ?_
  refine tR fun _ _ _ => ?_
  refine pV ?_
  refine tS ?_
  refine tS ?_
  refine tR fun _ _ _ => ?_
  refine pV ?_
  refine sV (rLenS rfl rfl) ?_
  refine pV ?_
  refine tB ?_
  refine tr_loop2 (fun (i : Int) (s : Int) => [(6, .int .i64 s), (19, .int .i64 i), (17, .slice B1 ps.length c1), (18, .int .i64 ps.length)]) (fun (i : Int) (s : Int) => [ow2 B1 74 c1 (pws ps)]) (fun (i : Int) (s : Int) => (0 ≤ i ∧ i ≤ ps.length) ∧ (∀ q ∈ ps.take i.toNat, q.2 ≤ 1) ∧ s = (if i.toNat % 2 = 0 then 1 else -1)) (fun (i : Int) (s : Int) => ((ps.length : Int) - i).toNat) (0) (1) ⟨rfl, rfl, rfl, rfl, trivial⟩ (by first | exact cs _ _ | exact CSub.refl _) (⟨⟨by omega, by omega⟩, fun q hq => by simp at hq, rfl⟩) (fun i s hI => ?_)
  obtain ⟨⟨hi0, hi1⟩, hall, hs⟩ := hI
  refine tS ?_
  refine tR fun _ _ _ => ?_
  refine pV ?_
  refine tS ?_
  refine tC rfl (fun h6 => ?_) (fun h6 => ?_)
  ·try simp only [zbA] at h6
   refine tK ?_
   refine tS ?_
   refine tB ?_
   refine tS ?_
   have hil : i.toNat < ps.length := by omega
   refine tR fun _ _ _ => ?_
   refine sV (rIdxT rfl rfl rfl (by omega) (by omega) (by simp; omega)) ?_
   refine sV (rLdT rfl rfl (by simp; omega)) ?_
   refine eV (eAlloc rfl rfl rfl (fun p7 => ?_))
   rw [pws_get1 ps i.toNat hil, pws_get2 ps i.toNat hil]
   refine eV (eStS rfl rfl rfl rfl rfl rfl ?_)
   refine tS ?_
   refine tS ?_
   refine tR fun _ _ _ => ?_
   refine sV (rFld rfl rfl) ?_
   refine sV (rLdF rfl rfl rfl) ?_
   refine pV ?_
   refine tC rfl (fun h8 => ?_) (fun h8 => ?_)
   ·try simp only [zbA] at h8
    refine tS ?_
    refine tR fun _ _ _ => ?_
    iterate 2 refine pV ?_
    exact tr_ret ⟨trivial, _, _, rfl, ⟨by
     have hm : (ps.getD i.toNat (0, 0)) ∈ ps := getD_mem hil (0, 0)
     have hmu : muB n.toNat = 0 := by
      rw [muB, ← hfb, muL, if_neg fun g => ?_]
      have := of_decide_eq_true (List.all_eq_true.1 g _ hm)
      omega
     rw [hmu], rfl⟩, CSub.nil _, trivial⟩
   ·try simp only [zbA] at h8
    refine tK ?_
    have hs1 : s = 1 ∨ s = -1 := by rw [hs]; split <;> simp
    refine tR fun _ _ _ => ?_
    refine pV ?_
    refine sV (rNeg rfl rfl (by omega) (by omega)) ?_
    refine pV ?_
    refine tR fun _ _ _ => ?_
    refine sV (rAdd rfl rfl rfl (by omega) (by omega)) ?_
    refine pV ?_
    refine ⟨i + 1, -s, ⟨rfl, rfl, rfl, rfl, trivial⟩, by first | exact cs _ _ | exact CSub.refl _, ?_⟩
    refine ⟨⟨⟨by omega, by omega⟩, fun q hq => ?_, ?_⟩, by omega⟩
    ·rw [show (i + 1).toNat = i.toNat + 1 by omega, List.take_add_one, List.mem_append] at hq
     rcases hq with hq | hq
     ·exact hall q hq
     ·rw [List.getElem?_eq_getElem hil, Option.toList_some, List.mem_singleton] at hq
      rw [List.getD_eq_getElem?_getD, List.getElem?_eq_getElem hil, Option.getD_some] at h8
      rw [hq]; omega
    ·rw [hs, show (i + 1).toNat = i.toNat + 1 by omega]
     by_cases e : i.toNat % 2 = 0
     ·rw [if_pos e, if_neg (by omega)]
     ·rw [if_neg e, if_pos (by omega)]; rfl
  ·try simp only [zbA] at h6
   refine tE ?_
   refine tS ?_
   refine tR fun _ _ _ => ?_
   iterate 3 refine pV ?_
   exact tr_ret ⟨trivial, _, _, rfl, ⟨by
    have hie : i.toNat = ps.length := by omega
    rw [hie] at hs hall
    rw [List.take_length] at hall
    have hmu : muB n.toNat = s := by
     rw [muB, ← hfb, muL, if_pos (List.all_eq_true.2 fun q hq => decide_eq_true (hall q hq)), hs]
    rw [hmu], rfl⟩, CSub.nil _, trivial⟩
end Go.Proofs.Ytdkahdehodopoaa

set_option maxRecDepth 100000
namespace Go.Proofs.Ytdkahdehodopoaa
def muT : List Int := [0, 1, -1, -1, 0, -1, 1, -1, 0, 0, 1, -1, 0, -1, 1, 1, 0, -1, 0, -1, 0, 1, 1, -1, 0, 0, 1, 0, 0, -1, -1, -1, 0, 1, 1, 1, 0, -1, 1, 1, 0, -1, -1, -1, 0, 0, 1, -1, 0, 0, 0, 1, 0, -1, 0, 1, 0, 1, 1, -1, 0, -1, 1, 0, 0, 1, -1, -1, 0, 1, -1, -1, 0, -1, 1, 0, 0, 1, -1, -1, 0, 0, 1, -1, 0, 1, 1, 1, 0, -1, 0, 1, 0, 1, 1, 1, 0, -1, 0, 0, 0, -1, -1, -1, 0, -1, 1, -1, 0, -1, -1, 1, 0, -1, -1, 1, 0, 0, 1, 1, 0, 0, 1, 1, 0, 0, 0, -1, 0, 1, -1, -1, 0, 1, 1, 0, 0, -1, -1, -1, 0, 1, 1, 1, 0, 1, 1, 0, 0, -1, 0, -1, 0, 0, -1, 1, 0, -1, 1, 1, 0, 1, 0, -1, 0, -1, 1, -1, 0, 0, -1, 0, 0, -1, -1, 0, 0, 1, 1, -1, 0, -1, -1, 1, 0, 1, -1, 1, 0, 0, -1, -1, 0, -1, 1, -1, 0, -1, 0, -1, 0, 1, 1, 1, 0, 1, 1, 0, 0, 1, 1, -1, 0, 1, 1, 1, 0, 1, 1, 1, 0, 1, -1, -1, 0, 0, 1, -1, 0, -1, -1, -1, 0, -1, 0, 1, 0, 1, -1, -1, 0, -1, 0, 0, 0, 0, -1, 1, 0, 1, 0, -1, 0, 1, 1, -1, 0]
def muT1 (n : Nat) : Int := muT.getD n 0
theorem muT_chk : ((List.range 257).all fun n => n == 0 || decide (muB n = muT1 n)) = true := by decide +kernel
theorem muT_eq {n : Nat} (h1 : 1 ≤ n) (h9 : n ≤ 256) : muB n = muT1 n := by
 have h := List.all_eq_true.1 muT_chk n (List.mem_range.2 (by omega))
 rw [Bool.or_eq_true] at h
 rcases h with h | h
 ·have := eq_of_beq h; omega
 ·exact of_decide_eq_true h
def sumZ (f : Nat → Int) : Nat → Int
 | 0 => 0
 | j + 1 => sumZ f j + f (j + 1)
theorem sumZ_congr {f g : Nat → Int} : ∀ n, (∀ j, 1 ≤ j → j ≤ n → f j = g j) → sumZ f n = sumZ g n
 | 0, _ => rfl
 | n + 1, h => by rw [sumZ, sumZ, sumZ_congr n fun j a b => h j a (by omega), h (n + 1) (by omega) (Nat.le_refl _)]
theorem sumZ_zero : ∀ n, sumZ (fun _ => 0) n = 0
 | 0 => rfl
 | n + 1 => by rw [sumZ, sumZ_zero n]; rfl
theorem sumZ_add (f g : Nat → Int) : ∀ n, sumZ (fun j => f j + g j) n = sumZ f n + sumZ g n
 | 0 => rfl
 | n + 1 => by rw [sumZ, sumZ, sumZ, sumZ_add f g n]; omega
theorem sumZ_mul (c : Int) (f : Nat → Int) : ∀ n, sumZ (fun j => c * f j) n = c * sumZ f n
 | 0 => (Int.mul_zero c).symm
 | n + 1 => by rw [sumZ, sumZ, sumZ_mul c f n, Int.mul_add]
theorem sumZ_swap (a : Nat → Nat → Int) (m : Nat) : ∀ n, sumZ (fun i => sumZ (fun j => a i j) m) n = sumZ (fun j => sumZ (fun i => a i j) n) m
 | 0 => by rw [sumZ]; exact (sumZ_zero m).symm
 | n + 1 => by
  rw [sumZ, sumZ_swap a m n, ← sumZ_add]
  exact sumZ_congr m fun j _ _ => rfl
theorem sumZ_one (f : Nat → Int) (n : Nat) (hn : 1 ≤ n) : sumZ (fun j => if j = n then f j else 0) n = f n := by
 obtain ⟨k, rfl⟩ : ∃ k, n = k + 1 := ⟨n - 1, by omega⟩
 rw [sumZ, if_pos rfl, sumZ_congr (g := fun _ => 0) k fun j _ h => if_neg (by omega), sumZ_zero, Int.zero_add]
theorem dsm_sumZ (N : Nat → Nat) (d : Nat) : ∀ j, ((dsm N d j : Nat) : Int) = sumZ (fun e => if d % e = 0 then ((e * N e : Nat) : Int) else 0) j
 | 0 => rfl
 | j + 1 => by
  rw [dsm, sumZ, ← dsm_sumZ N d j]
  by_cases h : d % (j + 1) = 0
  ·rw [if_pos h, if_pos h]; omega
  ·rw [if_neg h, if_neg h]; omega
theorem dsm_top (N : Nat → Nat) {d n : Nat} (h1 : 1 ≤ d) (h : d ≤ n) : dsm N d n = dsm N d d := by
 induction h with
 | refl => rfl
 | @step m hm ih =>
  have hle : d ≤ m := hm
  rw [dsm, ih, if_neg (by rw [Nat.mod_eq_of_lt (by omega)]; omega)]; rfl
def tSum (n e : Nat) : Int := sumZ (fun d => if n % d = 0 && d % e = 0 then muT1 (n / d) else 0) n
theorem tSum_chk : ((List.range 257).all fun n => (List.range (n + 1)).all fun e => e == 0 || n % e != 0 || decide (tSum n e = if e = n then 1 else 0)) = true := by decide +kernel
theorem tSum_eq {n e : Nat} (h1 : 1 ≤ e) (he : e ≤ n) (h9 : n ≤ 256) : tSum n e = if e = n then 1 else 0 := by
 by_cases hd : n % e = 0
 ·have h := List.all_eq_true.1 (List.all_eq_true.1 tSum_chk n (List.mem_range.2 (by omega))) e (List.mem_range.2 (by omega))
  simp only [Bool.or_eq_true, beq_iff_eq, bne_iff_ne, decide_eq_true_eq] at h
  rcases h with (h | h) | h
  ·omega
  ·exact absurd hd h
  ·exact h
 ·rw [if_neg (by intro g; rw [g, Nat.mod_self] at hd; exact hd rfl)]
  rw [tSum, sumZ_congr (g := fun _ => 0) n fun d a b => if_neg fun g => hd ?_, sumZ_zero]
  simp only [Bool.and_eq_true, decide_eq_true_eq] at g
  exact Nat.mod_eq_zero_of_dvd (Nat.dvd_trans (Nat.dvd_of_mod_eq_zero g.2) (Nat.dvd_of_mod_eq_zero g.1))
def mSum (q n j : Nat) : Int := sumZ (fun d => if n % d = 0 then muB (n / d) * ((q ^ d : Nat) : Int) else 0) j
theorem mSum_eq {q : Nat} {N : Nat → Nat} (hN : IsCnt q N) {n : Nat} (h1 : 1 ≤ n) (h9 : n ≤ 256) : mSum q n n = ((n * N n : Nat) : Int) := by
 have e1 : mSum q n n = sumZ (fun d => sumZ (fun e => ((e * N e : Nat) : Int) * (if n % d = 0 && d % e = 0 then muT1 (n / d) else 0)) n) n := by
  refine sumZ_congr n fun d a b => ?_
  by_cases hd : n % d = 0
  ·rw [if_pos hd, ← hN d a, ← dsm_top N a b, dsm_sumZ, ← sumZ_mul, muT_eq (Nat.div_pos b a) (Nat.le_trans (Nat.div_le_self _ _) h9)]
   refine sumZ_congr n fun e _ _ => ?_
   by_cases he : d % e = 0
   ·rw [if_pos he, if_pos (by simp [hd, he]), Int.mul_comm]
   ·rw [if_neg he, if_neg (by simp [he]), Int.mul_zero, Int.mul_zero]
  ·rw [if_neg hd, sumZ_congr (g := fun _ => 0) n fun e _ _ => by rw [if_neg (by simp [hd]), Int.mul_zero], sumZ_zero]
 rw [e1, sumZ_swap, sumZ_congr (g := fun e => if e = n then ((e * N e : Nat) : Int) else 0) n fun e a b => ?_, sumZ_one _ n h1]
 rw [sumZ_mul]
 have := tSum_eq a b h9
 unfold tSum at this
 rw [this]
 by_cases g : e = n
 ·rw [if_pos g, if_pos g, Int.mul_one]
 ·rw [if_neg g, if_neg g, Int.mul_zero]
end Go.Proofs.Ytdkahdehodopoaa

namespace Go.Proofs.Ytdkahdehodopoaa
open Go.RowKit
def dv (A B : Option Addr) (e : TypeId) (cap : Nat) (us vs : List Value) : Chunk where
 foot b := (ow B e cap vs).foot b ∨ (ro A us).foot b
 excl := True
 sat w := (ow B e cap vs).sat w ∧ ((A = B ∧ us <+: vs) ∨ ((ro A us).sat w ∧ ∀ b, (ow B e cap vs).foot b → ¬ (ro A us).foot b))
 loc w w' h hs := ⟨(ow B e cap vs).loc w w' (fun b hb => h b (.inl hb)) hs.1, hs.2.imp id fun g => ⟨(ro A us).loc w w' (fun b hb => h b (.inr hb)) g.1, g.2⟩⟩
 cel w b hs hb := by
  rcases hb with hb | hb
  ·exact (ow B e cap vs).cel w b hs.1 hb
  ·rcases hs.2 with ⟨rfl, hp⟩ | ⟨g, _⟩
   ·exact (ow A e cap vs).cel w b hs.1 hb.2
   ·exact (ro A us).cel w b g hb
theorem ro_prefix {A : Option Addr} {us vs : List Value} {w : World} (h : (ro A vs).sat w) (hp : us <+: vs) : (ro A us).sat w := fun j hj => by
 obtain ⟨t, rfl⟩ := hp
 obtain ⟨ad, h1, h2⟩ := h j (by rw [List.length_append]; omega)
 exact ⟨ad, h1, by rw [h2, List.getElem_append_left hj]⟩
theorem dv_reads {A B : Option Addr} {e : TypeId} {cap : Nat} {us vs : List Value} {w : World} (h : (dv A B e cap us vs).sat w) : (ro A us).sat w := by
 rcases h.2 with ⟨rfl, hp⟩ | ⟨g, _⟩
 ·exact ro_prefix (ow_reads h.1) hp
 ·exact g
instance Rd.ofDv (F : List Chunk) (A B : Option Addr) (e : TypeId) (cap : Nat) (us vs : List Value) : Rd (dv A B e cap us vs :: F) A us := ⟨fun _ _ _ hm => dv_reads (hm.sat _ (List.mem_cons_self ..)), fun b hb => ⟨_, List.mem_cons_self .., .inr hb⟩⟩
theorem dv_start {B : Option Addr} {e : TypeId} {cap : Nat} {us vs : List Value} (hp : us <+: vs) (F : List Chunk) : CSub (ow B e cap vs :: F) (dv B B e cap us vs :: F) :=
 CSub.weak (c := ow B e cap vs) (d := dv B B e cap us vs) ⟨fun w h => ⟨h, .inl ⟨rfl, hp⟩⟩, fun b hb => hb.elim id fun h => h.2, fun _ => trivial⟩ F
theorem dv_end {A B : Option Addr} {e : TypeId} {cap : Nat} {us vs : List Value} (F : List Chunk) : CSub (dv A B e cap us vs :: F) (ow B e cap vs :: F) :=
 CSub.weak (c := dv A B e cap us vs) (d := ow B e cap vs) ⟨fun w h => h.1, fun b hb => .inl hb, fun _ => trivial⟩ F
class PkDv (F : List Chunk) (A : outParam (Option Addr)) (B : Option Addr) (e : outParam TypeId) (cap : outParam Nat) (us vs : outParam (List Value)) (F' : outParam (List Chunk)) : Prop where
 perm : F.Perm (dv A B e cap us vs :: F')
instance PkDv.head (F : List Chunk) (A B : Option Addr) (e : TypeId) (cap : Nat) (us vs : List Value) : PkDv (dv A B e cap us vs :: F) A B e cap us vs F := ⟨List.Perm.refl _⟩
instance PkDv.tail (c : Chunk) (F F' : List Chunk) (A B : Option Addr) (e : TypeId) (cap : Nat) (us vs : List Value) [h : PkDv F A B e cap us vs F'] : PkDv (c :: F) A B e cap us vs (c :: F') := ⟨(h.perm.cons c).trans (List.Perm.swap ..)⟩
section
variable {P : Program} {N : NB} {M : Nat → Prop} {w0 : World} {L : Fr} {F F' : List Chunk} {K : Fr → List Chunk → Prop} {o : Oper} {x y : Operand} {t e : TypeId} {z : Value} {bytes : Nat}
theorem app_at [h : SlTy P t e z bytes] {ty : TypeId} {w : World} {g cap m c : Nat} {vs ws : List Value} {cur : Array Value} (hown : w.ownsRow 0 e 1 (.slice (some ⟨g, 0, none⟩) vs.length cap) vs.length vs) (hg : w.heap[g]? = some (.cells cur e (0, 0))) (hcs : vs.length ≤ cap ∧ cur.size = cap) {ad : Addr} (hcells : (ro (some ad) ws).sat w) (hm : m = ws.length) (hone : ∀ u ∈ ws, u.oneCell' = true)
  (hb : (vs.length + ws.length) * bytes ≤ 140737488355328) (hlen : vs.length + ws.length ≤ maxLen) :
  ∃ A' cap' w', (Builtin.append_ #[t, t] ty #[.slice (some ⟨g, 0, none⟩) vs.length cap, .slice (some ad) m c]).run P w = .ok (.slice A' (vs.length + ws.length) cap') w' ∧ w'.ownsRow 0 e 1 (.slice A' (vs.length + ws.length) cap') (vs.length + ws.length) (vs ++ ws) ∧
   ((A' = some ⟨g, 0, none⟩ ∧ w.grownBy w' (some g)) ∨ (∃ a', A' = some a' ∧ a'.block = w.heap.size ∧ w.grownBy w' none)) := by
 obtain ⟨i, hi, hz, hs, hby⟩ := info_parts h.inf
 subst hm
 have hnews : ∀ j u, ws[j]? = some u → w.cell? (ad.add j) = some u := fun j u hu => by
  obtain ⟨hj, rfl⟩ := List.getElem?_eq_some_iff.1 hu
  obtain ⟨ad', h1, h2⟩ := hcells j hj
  simp only [Option.some.injEq] at h1
  subst h1
  exact h2
 obtain ⟨v', w', h1, h2, h3, _, h5⟩ := run_append_own_at (P := P) w 0 t ty e i z 1 bytes h.und hi hz hs hby (by rw [h.one]; rfl) (by omega) _ vs.length vs hown ad ws.length c ws (by omega) hnews hone hlen (by simpa using hb) (Nat.zero_le _)
 have hsm : vs.length + ws.length ≤ 9223372036854775807 := by simp only [maxLen] at hlen; omega
 by_cases hroom : vs.length + ws.length ≤ cap
 ·have hr := run_append_room (P := P) (w := w) t ty e i h.und hi g vs.length cap cur hg ad ws.length c ws (by rw [hs]; omega) hnews hone hroom (by rw [hs]; omega)
  rw [hr] at h1
  simp only [Result.ok.injEq] at h1
  obtain ⟨rfl, rfl⟩ := h1
  exact ⟨_, _, _, hr, h2, .inl ⟨rfl, h3⟩⟩
 ·have holds : ∀ j u, vs[j]? = some u → w.cell? ((⟨g, 0, none⟩ : Addr).add j) = some u := hown.cells (g := g) rfl
  have hr := run_append_grow (P := P) (w := w) t ty e i z h.und hi hz ⟨g, 0, none⟩ vs.length cap vs (by rw [hs]; omega) holds ad ws.length c ws (by rw [hs]; omega) hnews (by omega) (by omega) (growslice_fits (by omega) (by rw [hby]; exact hb))
  rw [hr] at h1
  simp only [Result.ok.injEq] at h1
  obtain ⟨rfl, rfl⟩ := h1
  exact ⟨_, _, _, hr, h2, .inr ⟨_, rfl, rfl, ⟨rfl, rfl, rfl, by simp, fun k hk _ => heap_alloc_old w.drew _ hk⟩⟩⟩
theorem eAppV {A0 A B : Option Addr} {n m c cap : Nat} {us vs ws : List Value} (ho : o.op = .call { callee := .builtin .append, args := #[x, y], argTypes := #[t, t] }) {d : Nat} (hdd : o.dst = some d) (hd : Nat.ble (d + 1) N.n = true) [h : SlTy P t e z bytes]
  (hx : ev L x = some (.slice A n cap)) (hy : ev L y = some (.slice B m c)) [hp : PkDv F A0 A e cap us vs F'] [hr : Rd F B ws] (hn : n = vs.length) (hm' : m = ws.length) (h0 : 0 < vs.length) (h0w : 0 < ws.length) (hone : ∀ u ∈ ws, u.oneCell' = true) (hb : (vs.length + ws.length) * bytes ≤ 140737488355328) (hlen : vs.length + ws.length ≤ maxLen)
  (hK : ∀ (A' : Option Addr) (cap' : Nat), K (addL d (.slice A' (vs.length + ws.length) cap') L) (dv A0 A' e cap' us (vs ++ ws) :: F')) : Eff P N M w0 false o L F K := fun a w hl hm => by
 subst hn
 have hmp := hm.perm hp.perm
 have hds : (dv A0 A e cap us vs).sat w := hmp.sat _ (List.mem_cons_self ..)
 have hown : w.ownsRow 0 e 1 (.slice A vs.length cap) vs.length vs := hds.1
 have hcells := hr.rd M w0 w hm
 rcases hown.2 with ⟨_, h9⟩ | ⟨g, cp, cur, hv, hbg, hg, hnc, hcm, hcs, htk⟩
 ·omega
 simp only [Value.slice.injEq] at hv
 obtain ⟨rfl, _, rfl⟩ := hv
 obtain ⟨ad, rfl⟩ : ∃ ad, B = some ad := by
  obtain ⟨ad, h1, _⟩ := hcells 0 h0w
  exact ⟨ad, h1⟩
 obtain ⟨A', cap', w', h1, h2, h3⟩ := app_at (P := P) (ty := o.type) (t := t) (m := m) (c := c) hown hg ⟨hnc, by omega⟩ hcells hm' hone hb hlen
 have hrun : (execOp a.eval o).run P w = .ok (.value (.slice A' (vs.length + ws.length) cap')) w' := by
  simp only [execOp, ho, resolve, invoke, builtin, Sem.run_bind, Sem.run_pure, Result.andThen_ok, List.map_toArray, List.map_cons, List.map_nil, hl.eval hx, hl.eval hy, h1]
 simp only [Oper.wp, hrun, Oper.upon_value]
 have hgr : w.grownBy w' (some g) := by
  rcases h3 with ⟨_, h3⟩ | ⟨a', _, _, h3⟩
  ·exact h3
  ·exact ⟨h3.os, h3.tape, h3.output, h3.size, fun k hk _ => h3.block k hk (by simp)⟩
 have hlt : ∀ b, (dv A0 (some ⟨g, 0, none⟩) e cap us vs).foot b → b < w.heap.size := fun b hb' => (dv A0 (some ⟨g, 0, none⟩) e cap us vs).lt w b hds hb'
 refine ⟨fun hc => absurd hc (by simp), _, _, hl.add hdd hd _, ?_, hK A' cap'⟩
 refine hmp.change (by exact trivial) ⟨hgr.os, hgr.tape, hgr.output, hgr.size, fun k hk hc => hgr.block k hk (fun hkb => hc (.inl ⟨_, rfl, by simpa using hkb.symm⟩))⟩ ⟨by show w'.ownsRow 0 e 1 (.slice A' (vs ++ ws).length cap') (vs ++ ws).length (vs ++ ws); rw [List.length_append]; exact h2, ?_⟩ (fun b' hb' => ?_)
 ·rcases h3 with ⟨rfl, h3⟩ | ⟨a', rfl, ha', h3⟩
  ·rcases hds.2 with ⟨rfl, hpre⟩ | ⟨hro, hne⟩
   ·exact .inl ⟨rfl, hpre.trans (List.prefix_append ..)⟩
   ·refine .inr ⟨(ro A0 us).loc w w' (fun b hb' => ?_) hro, fun b hb' => hne b hb'⟩
    exact h3.block b (hlt b (.inr hb')) fun e => hne b ⟨_, rfl, by simpa using e.symm⟩ hb'
  ·refine .inr ⟨(ro A0 us).loc w w' (fun b hb' => h3.block b (hlt b (.inr hb')) (by simp)) (dv_reads hds), fun b hb' hb2 => ?_⟩
   obtain ⟨ad', h4, rfl⟩ := hb'
   have h5 := hlt _ (.inr hb2)
   simp only [Option.some.injEq] at h4
   subst h4
   omega
 ·rcases hb' with hb' | hb'
  ·obtain ⟨ad', h4, rfl⟩ := hb'
   rcases h3 with ⟨rfl, h3⟩ | ⟨a', rfl, ha', h3⟩
   ·exact .inl (.inl ⟨_, h4, rfl⟩)
   ·simp only [Option.some.injEq] at h4
    subst h4
    exact .inr (by omega)
  ·exact .inl (.inr hb')
theorem eAppVI {A0 A B : Option Addr} {n m c cap : Nat} {us : List Value} {xs ys : List Int} (ho : o.op = .call { callee := .builtin .append, args := #[x, y], argTypes := #[t, t] }) {d : Nat} (hdd : o.dst = some d) (hd : Nat.ble (d + 1) N.n = true) [h : SlTy P t e z 8]
  (hx : ev L x = some (.slice A n cap)) (hy : ev L y = some (.slice B m c)) [hp : PkDv F A0 A e cap us (ints xs) F'] [hr : Rd F B (ints ys)] (hn : n = xs.length) (hm' : m = ys.length) (h0 : 0 < xs.length) (h0w : 0 < ys.length) (hb : xs.length + ys.length ≤ 1000000)
  (hK : ∀ (A' : Option Addr) (cap' : Nat), K (addL d (.slice A' (xs ++ ys).length cap') L) (dv A0 A' e cap' us (ints (xs ++ ys)) :: F')) : Eff P N M w0 false o L F K :=
 eAppV ho hdd hd (h := h) hx hy (hp := hp) (hr := hr) (by simpa using hn) (by simpa using hm') (by simpa using h0) (by simpa using h0w) (ints_oneCell .i64 ys) (by simp only [ints_length]; omega) (by simp only [ints_length, maxLen]; omega) (fun A' cap' => by
  have := hK A' cap'
  rw [ints_append, List.length_append] at this
  simpa using this)
end
end Go.Proofs.Ytdkahdehodopoaa

set_option maxRecDepth 100000
namespace Go.Proofs.Ytdkahdehodopoaa
def dvE (o : List Int) (p : Int) : Nat → List Int
 | 0 => o
 | r + 1 => dvE o p r ++ o.map fun d => d * p ^ (r + 1)
def dvF (ps : List (Int × Int)) : List Int := ps.foldl (fun o q => dvE o q.1 q.2.toNat) [1]
theorem dvE_pre (o : List Int) (p : Int) : ∀ r, o <+: dvE o p r
 | 0 => List.prefix_rfl
 | r + 1 => (dvE_pre o p r).trans (List.prefix_append ..)
theorem dvF_snoc (ps : List (Int × Int)) (q : Int × Int) : dvF (ps ++ [q]) = dvE (dvF ps) q.1 q.2.toNat := by
 rw [dvF, List.foldl_append]; rfl
def inB (o : List Int) : Bool := decide (1 ≤ o.length) && decide (o.length ≤ 64) && o.all fun d => decide (1 ≤ d) && decide (d ≤ 256)
def bndB (n : Nat) : Bool := (List.range (facB n).length).all fun i => (List.range (((facB n).getD i (0, 0)).2.toNat + 1)).all fun r => inB (dvE (dvF ((facB n).take i)) ((facB n).getD i (0, 0)).1 r) && decide (((facB n).getD i (0, 0)).1 ^ r ≤ 256) && decide (0 ≤ ((facB n).getD i (0, 0)).1 ^ r) && decide (((facB n).getD i (0, 0)).1 ≤ 256) && decide (0 ≤ ((facB n).getD i (0, 0)).1) && decide (((facB n).getD i (0, 0)).2 ≤ 256)
theorem bnd_chk : ((List.range 257).all fun n => n == 0 || bndB n) = true := by decide +kernel
theorem inB_ok {o : List Int} (h : inB o = true) : 1 ≤ o.length ∧ o.length ≤ 64 ∧ ∀ d ∈ o, 1 ≤ d ∧ d ≤ 256 := by
 simp only [inB, Bool.and_eq_true, decide_eq_true_eq, List.all_eq_true] at h
 exact ⟨h.1.1, h.1.2, h.2⟩
theorem bnd_ok {n : Nat} (h1 : 1 ≤ n) (h9 : n ≤ 256) {i r : Nat} (hi : i < (facB n).length) (hr : r ≤ ((facB n).getD i (0, 0)).2.toNat) :
  (1 ≤ (dvE (dvF ((facB n).take i)) ((facB n).getD i (0, 0)).1 r).length ∧ (dvE (dvF ((facB n).take i)) ((facB n).getD i (0, 0)).1 r).length ≤ 64 ∧ ∀ d ∈ dvE (dvF ((facB n).take i)) ((facB n).getD i (0, 0)).1 r, 1 ≤ d ∧ d ≤ 256) ∧ ((facB n).getD i (0, 0)).1 ^ r ≤ 256 ∧ 0 ≤ ((facB n).getD i (0, 0)).1 ^ r ∧ ((facB n).getD i (0, 0)).1 ≤ 256 ∧ 0 ≤ ((facB n).getD i (0, 0)).1 ∧ ((facB n).getD i (0, 0)).2 ≤ 256 := by
 have h := List.all_eq_true.1 bnd_chk n (List.mem_range.2 (by omega))
 rw [Bool.or_eq_true] at h
 rcases h with h | h
 ·have := eq_of_beq h; omega
 ·have h2 := List.all_eq_true.1 (List.all_eq_true.1 h i (List.mem_range.2 hi)) r (List.mem_range.2 (by omega))
  simp only [Bool.and_eq_true, decide_eq_true_eq] at h2
  exact ⟨inB_ok h2.1.1.1.1.1, h2.1.1.1.1.2, h2.1.1.1.2, h2.1.1.2, h2.1.2, h2.2⟩
def dvS (n : Nat) : List Int := ((List.range (n + 1)).filter fun d => decide (1 ≤ d) && decide (n % d = 0)).map fun d => ((d : Nat) : Int)
theorem dvS_chk : ((List.range 257).all fun n => n == 0 || ((dvF (facB n)).isPerm (dvS n) && decide ((dvS n).length ≤ 64))) = true := by decide +kernel
theorem dvS_ok {n : Nat} (h1 : 1 ≤ n) (h9 : n ≤ 256) : (dvF (facB n)).Perm (dvS n) ∧ (dvS n).length ≤ 64 := by
 have h := List.all_eq_true.1 dvS_chk n (List.mem_range.2 (by omega))
 rw [Bool.or_eq_true] at h
 rcases h with h | h
 ·have := eq_of_beq h; omega
 ·rw [Bool.and_eq_true] at h
  exact ⟨List.isPerm_iff.1 h.1, of_decide_eq_true h.2⟩
theorem dvS_sorted (n : Nat) : (dvS n).Pairwise fun a b => a < b := by
 rw [dvS, List.pairwise_map]
 exact ((List.pairwise_lt_range (n := n + 1)).filter _).imp fun h => by omega
end Go.Proofs.Ytdkahdehodopoaa

set_option maxRecDepth 100000
namespace Go.Proofs.Ytdkahdehodopoaa
open Go.RowKit
theorem num_Divisors_ent : Enters Try.prog 37 := enters_of Try.func37 (by kernel_rfl) (by kernel_rfl)
theorem num_Divisors (n : Int) (hn1 : 1 ≤ n) (hn9 : n ≤ 256) :
  Pure Try.prog 37 #[.int .i64 n] [] (one (fun v ch => ∃ B c, v = .tuple #[.slice B (dvS n.toNat).length c, .int .i64 0] ∧ ch = ow B 3 c (ints (dvS n.toNat)))) := by
 refine pure_of (args := [.int .i64 n]) 58 Try.func37 rfl rfl rfl num_Divisors_ent trivial (fun w0 => ?_)
 refine tS ?_
 refine tR fun _ _ _ => ?_
 iterate 2 refine pV ?_
 refine tS ?_
 refine tR fun _ _ _ => ?_
 refine pV ?_
 refine eV (eCall1 rfl rfl rfl (num_FactorX n hn1 hn9) ⟨rfl, trivial⟩ ?_)
 rintro _ _ ⟨B1, c1, ps, rfl, rfl, hprf, hpl⟩
 iterate 5 refine pV ?_
 have hfb := facB_eq (n := n.toNat) (by omega) (by omega) hprf
 have hds := dvS_ok (n := n.toNat) (by omega) (by omega)
 rw [← hfb] at hds
 have hbd : ∀ i r, i < ps.length → r ≤ (ps.getD i (0, 0)).2.toNat → (1 ≤ (dvE (dvF (ps.take i)) (ps.getD i (0, 0)).1 r).length ∧ (dvE (dvF (ps.take i)) (ps.getD i (0, 0)).1 r).length ≤ 64 ∧ ∀ d ∈ dvE (dvF (ps.take i)) (ps.getD i (0, 0)).1 r, 1 ≤ d ∧ d ≤ 256) ∧ (ps.getD i (0, 0)).1 ^ r ≤ 256 ∧ 0 ≤ (ps.getD i (0, 0)).1 ^ r ∧ (ps.getD i (0, 0)).1 ≤ 256 ∧ 0 ≤ (ps.getD i (0, 0)).1 ∧ (ps.getD i (0, 0)).2 ≤ 256 := fun i r h1 h2 => by
  rw [hfb] at h1 h2 ⊢
  exact bnd_ok (by omega) (by omega) h1 h2
 refine tS ?_
 refine tS ?_
 refine tR fun _ _ _ => ?_
 iterate 2 refine pV ?_
 refine tC rfl (fun h2 => ?_) (fun h2 => ?_)
 ·try simp only [zbA] at h2
  first | exact absurd trivial h2 | exact absurd rfl h2 | omega | (exact absurd h2 (by simp)) --done
 ·try simp only [zbA] at h2
  refine tK ?_
  refine tS ?_
  refine tR fun _ _ _ => ?_
  refine eV (eLit1I rfl rfl rfl rfl (fun A4 => ?_))
  refine pV ?_
  refine tS ?_
  refine tS ?_
  refine tR fun _ _ _ => ?_
  refine pV ?_
  refine sV (rLenS rfl rfl) ?_
  refine pV ?_
  refine tB ?_
  refine tr_loop4 (fun (i : Int) (B : Option Addr) (cb : Nat) (o : List Int) => [(6, .slice B o.length cb), (24, .int .i64 i), (2, .slice none 0 0), (3, .int .i64 0), (22, .slice B1 ps.length c1), (23, .int .i64 ps.length)]) (fun (i : Int) (B : Option Addr) (cb : Nat) (o : List Int) => [ow B 3 cb (ints o), ow2 B1 74 c1 (pws ps)]) (fun (i : Int) (B : Option Addr) (cb : Nat) (o : List Int) => (0 ≤ i ∧ i ≤ ps.length) ∧ o = (dvF (ps.take i.toNat))) (fun (i : Int) (B : Option Addr) (cb : Nat) (o : List Int) => ((ps.length : Int) - i).toNat) (0) (A4) (1) ([1]) ⟨rfl, rfl, rfl, rfl, rfl, rfl, trivial⟩ (by first | exact cs _ _ | exact CSub.refl _) (⟨⟨by omega, by omega⟩, rfl⟩) (fun i B cb o hI => ?_)
  obtain ⟨⟨hi0, hi1⟩, ho⟩ := hI
  refine tS ?_
  refine tR fun _ _ _ => ?_
  refine pV ?_
  refine tS ?_
  refine tC rfl (fun h6 => ?_) (fun h6 => ?_)
  ·try simp only [zbA] at h6
   refine tK ?_
   refine tS ?_
   refine tB ?_
   refine tS ?_
   have hil : i.toNat < ps.length := by omega
   have hb0 := hbd i.toNat 0 hil (Nat.zero_le _)
   rw [← ho, dvE] at hb0
   have hex := (hprf.each _ (getD_mem hil (0, 0))).2.2
   refine tR fun _ _ _ => ?_
   refine sV (rIdxT rfl rfl rfl (by omega) (by omega) (by simp; omega)) ?_
   refine sV (rLdT rfl rfl (by simp; omega)) ?_
   refine eV (eAlloc rfl rfl rfl (fun p7 => ?_))
   rw [pws_get1 ps i.toNat hil, pws_get2 ps i.toNat hil]
   refine eV (eStS rfl rfl rfl rfl rfl rfl ?_)
   refine tS ?_
   refine tR fun _ _ _ => ?_
   refine pV ?_
   refine sV (rLen rfl rfl) ?_
   refine pV ?_
   refine tS ?_
   refine tR fun _ _ _ => ?_
   refine pV ?_
   refine tS ?_
   refine tR fun _ _ _ => ?_
   refine sV (rFld rfl rfl) ?_
   refine sV (rLdF rfl rfl rfl) ?_
   refine pV ?_
   refine tB ?_
   refine tr_loop5 (fun (j : Int) (B2 : Option Addr) (cb2 : Nat) (o2 : List Int) (pp : Int) => [(6, .slice B2 o2.length cb2), (32, .int .i64 j), (10, .int .i64 pp), (31, .int .i64 (ps.getD i.toNat (0, 0)).2), (2, .slice none 0 0), (3, .int .i64 0), (8, .pointer (some p7)), (9, .int .i64 o.length), (22, .slice B1 ps.length c1), (23, .int .i64 ps.length), (24, .int .i64 i), (28, .slice B o.length cb), (29, .int .i64 o.length)]) (fun (j : Int) (B2 : Option Addr) (cb2 : Nat) (o2 : List Int) (pp : Int) => [ow B2 3 cb2 (ints o2), blk p7 74 [.int .i64 (ps.getD i.toNat (0, 0)).1, .int .i64 (ps.getD i.toNat (0, 0)).2], ow2 B1 74 c1 (pws ps)]) (fun (j : Int) (B2 : Option Addr) (cb2 : Nat) (o2 : List Int) (pp : Int) => (0 ≤ j ∧ j ≤ (ps.getD i.toNat (0, 0)).2) ∧ o2 = dvE o (ps.getD i.toNat (0, 0)).1 j.toNat ∧ pp = (ps.getD i.toNat (0, 0)).1 ^ j.toNat) (fun (j : Int) (B2 : Option Addr) (cb2 : Nat) (o2 : List Int) (pp : Int) => ((ps.getD i.toNat (0, 0)).2 - j).toNat) (0) (B) (cb) (o) (1) ⟨rfl, rfl, rfl, rfl, rfl, rfl, rfl, rfl, rfl, rfl, rfl, rfl, rfl, trivial⟩ (by first | exact cs _ _ | exact CSub.refl _) (⟨⟨by omega, by omega⟩, rfl, (Int.pow_zero _).symm⟩) (fun j B2 cb2 o2 pp hI => ?_)
   obtain ⟨⟨hj0, hj1⟩, ho2, hpp⟩ := hI
   refine tS ?_
   refine tR fun _ _ _ => ?_
   refine pV ?_
   refine tS ?_
   refine tC rfl (fun h11 => ?_) (fun h11 => ?_)
   ·try simp only [zbA] at h11
    refine tK ?_
    refine tS ?_
    refine tB ?_
    refine tS ?_
    have hbj := hbd i.toNat j.toNat hil (by omega)
    have hb1 := hbd i.toNat (j.toNat + 1) hil (by omega)
    rw [← ho] at hbj hb1
    rw [← ho2, ← hpp] at hbj
    have hpq : (ps.getD i.toNat (0, 0)).1 ^ (j.toNat + 1) = (pp * (ps.getD i.toNat (0, 0)).1) := by rw [Int.pow_succ, ← hpp]
    rw [hpq] at hb1
    have hol2 : o.length ≤ o2.length := by rw [ho2]; exact (dvE_pre o (ps.getD i.toNat (0, 0)).1 j.toNat).length_le
    refine tr_cap B2 3 cb2 (ints o2) fun hcap2 => ?_
    rw [ints_length] at hcap2
    refine tR fun _ _ _ => ?_
    refine pV ?_
    refine sV (rFld rfl rfl) ?_
    refine sV (rLdF rfl rfl rfl) ?_
    refine sV (rMul rfl rfl rfl (by omega) (by omega)) ?_
    refine pV ?_
    refine tS ?_
    refine tR fun _ _ _ => ?_
    iterate 2 refine pV ?_
    refine sV (rCutHi rfl rfl rfl (by omega) (by omega)) ?_
    refine sV (rLen rfl rfl) ?_
    refine pV ?_
    refine tr_chunks _ (dv_start (us := ints o) (by rw [ho2]; obtain ⟨t, ht⟩ := dvE_pre o (ps.getD i.toNat (0, 0)).1 j.toNat; exact ⟨ints t, by rw [← ints_append, ht]⟩) _) ?_
    refine tB ?_
    refine tr_loop5 (fun (z : Int) (B3 : Option Addr) (cb3 : Nat) (o3 : List Int) (n3 : Nat) => [(6, .slice B3 n3 cb3), (42, .int .i64 z), (10, .int .i64 (pp * (ps.getD i.toNat (0, 0)).1)), (40, .slice B2 ((o.length : Nat) : Int).toNat cb2), (41, .int .i64 (((o.length : Nat) : Int).toNat : Nat)), (2, .slice none 0 0), (3, .int .i64 0), (8, .pointer (some p7)), (9, .int .i64 o.length), (22, .slice B1 ps.length c1), (23, .int .i64 ps.length), (24, .int .i64 i), (28, .slice B o.length cb), (29, .int .i64 o.length), (31, .int .i64 (ps.getD i.toNat (0, 0)).2), (32, .int .i64 j), (34, .int .i64 pp), (38, .slice B2 o2.length cb2), (39, .int .i64 o.length)]) (fun (z : Int) (B3 : Option Addr) (cb3 : Nat) (o3 : List Int) (n3 : Nat) => [dv B2 B3 3 cb3 (ints o) (ints o3), blk p7 74 [.int .i64 (ps.getD i.toNat (0, 0)).1, .int .i64 (ps.getD i.toNat (0, 0)).2], ow2 B1 74 c1 (pws ps)]) (fun (z : Int) (B3 : Option Addr) (cb3 : Nat) (o3 : List Int) (n3 : Nat) => (0 ≤ z ∧ z ≤ o.length) ∧ n3 = o3.length ∧ o3 = o2 ++ (o.take z.toNat).map (fun d => d * (pp * (ps.getD i.toNat (0, 0)).1))) (fun (z : Int) (B3 : Option Addr) (cb3 : Nat) (o3 : List Int) (n3 : Nat) => ((o.length : Int) - z).toNat) (0) (B2) (cb2) (o2) (o2.length) ⟨rfl, rfl, rfl, rfl, rfl, rfl, rfl, rfl, rfl, rfl, rfl, rfl, rfl, rfl, rfl, rfl, rfl, rfl, rfl, trivial⟩ (by first | exact cs _ _ | exact CSub.refl _) (⟨⟨by omega, by omega⟩, rfl, by simp⟩) (fun z B3 cb3 o3 n3 hI => ?_)
    obtain ⟨⟨hz0, hz1⟩, rfl, ho3⟩ := hI
    refine tS ?_
    skip
    refine tR fun _ _ _ => ?_
    refine pV ?_
    refine tS ?_
    refine tC rfl (fun h14 => ?_) (fun h14 => ?_)
    ·try simp only [zbA] at h14
     refine tK ?_
     refine tS ?_
     refine tB ?_
     refine tS ?_
     have hzl : z.toNat < o.length := by omega
     have hl3 : 1 ≤ o3.length ∧ o3.length ≤ 128 := by
      have h1 := congrArg List.length ho3
      rw [List.length_append, List.length_map, List.length_take] at h1
      omega
     have hxm : o.getD z.toNat 0 * (pp * (ps.getD i.toNat (0, 0)).1) ∈ dvE o (ps.getD i.toNat (0, 0)).1 (j.toNat + 1) := by
      rw [dvE, hpq]
      exact List.mem_append_right _ (List.mem_map.2 ⟨_, getD_mem hzl 0, rfl⟩)
     have hxb := hb1.1.2.2 _ hxm
     refine tR fun _ _ _ => ?_
     refine sV (rIdxI rfl rfl rfl (by omega) (by omega) (by omega)) ?_
     refine sV (rLdI rfl rfl (by omega)) ?_
     refine pV ?_
     refine tR fun _ _ _ => ?_
     iterate 3 refine pV ?_
     refine sV (rMul rfl rfl rfl (by omega) (by omega)) ?_
     refine eV (eLit1I rfl rfl rfl rfl (fun A16 => ?_))
     refine eV (eAppVI rfl rfl rfl rfl rfl (by first | rfl | simp) (by rfl) (by omega) (by simp) (by simp; omega) (fun A16a c16a => ?_))
     refine pV ?_
     refine tR fun _ _ _ => ?_
     refine sV (rAdd rfl rfl rfl (by omega) (by omega)) ?_
     refine pV ?_
     refine ⟨z + 1, A16a, c16a, o3 ++ [o.getD z.toNat 0 * (pp * (ps.getD i.toNat (0, 0)).1)], _, ⟨rfl, rfl, rfl, rfl, rfl, rfl, rfl, rfl, rfl, rfl, rfl, rfl, rfl, rfl, rfl, rfl, rfl, rfl, rfl, trivial⟩, by first | exact cs _ _ | exact CSub.refl _, ?_⟩
     refine ⟨⟨⟨by omega, by omega⟩, by simp, ?_⟩, by omega⟩
     rw [show (z + 1).toNat = z.toNat + 1 by omega, List.take_add_one, List.getElem?_eq_getElem hzl, Option.toList_some, List.map_append, ← List.append_assoc, ← ho3, List.getD_eq_getElem?_getD, List.getElem?_eq_getElem hzl]
     rfl
    ·try simp only [zbA] at h14
     refine tE ?_
     refine tr_chunks _ (dv_end _) ?_
     refine tR fun _ _ _ => ?_
     refine sV (rAdd rfl rfl rfl (by omega) (by omega)) ?_
     refine pV ?_
     refine ⟨j + 1, B3, cb3, o3, (pp * (ps.getD i.toNat (0, 0)).1), ⟨rfl, rfl, rfl, rfl, rfl, rfl, rfl, rfl, rfl, rfl, rfl, rfl, rfl, trivial⟩, by first | exact cs _ _ | exact CSub.refl _, ?_⟩
     refine ⟨⟨⟨by omega, by omega⟩, ?_, ?_⟩, by omega⟩
     ·rw [show (j + 1).toNat = j.toNat + 1 by omega, dvE, hpq, ho3, ← ho2, List.take_of_length_le (by omega)]
     ·rw [show (j + 1).toNat = j.toNat + 1 by omega, hpq]
   ·try simp only [zbA] at h11
    refine tE ?_
    refine tR fun _ _ _ => ?_
    refine sV (rAdd rfl rfl rfl (by omega) (by omega)) ?_
    refine pV ?_
    refine ⟨i + 1, B2, cb2, o2, ⟨rfl, rfl, rfl, rfl, rfl, rfl, trivial⟩, by first | exact cs _ _ | exact CSub.refl _, ?_⟩
    refine ⟨⟨⟨by omega, by omega⟩, ?_⟩, by omega⟩
    rw [show (i + 1).toNat = i.toNat + 1 by omega, List.take_add_one, List.getElem?_eq_getElem hil, Option.toList_some, dvF_snoc, ho2, ← ho, show j = (ps.getD i.toNat (0, 0)).2 by omega, List.getD_eq_getElem?_getD, List.getElem?_eq_getElem hil]
    rfl
  ·try simp only [zbA] at h6
   refine tE ?_
   refine tS ?_
   have hie : i.toNat = ps.length := by omega
   rw [hie, List.take_length] at ho
   rw [← ho] at hds
   have hlo := hds.1.length_eq
   have hol : o.length ≤ 64 := by omega
   have hso : sortI o = dvS n.toNat := asc_eq _ _ (sortI_lt (hds.1.nodup_iff.2 ((dvS_sorted _).imp fun h => by omega))) (dvS_sorted _) fun x => by rw [(sortI_perm o).mem_iff, hds.1.mem_iff]
   refine tR fun _ _ _ => ?_
   refine pV ?_
   refine eV (eCallM1 rfl rfl rfl (slc_Sort B _ cb o rfl (by omega)) ⟨rfl, trivial⟩ ?_)
   rintro _ _ ⟨rfl, rfl⟩
   rw [hso]
   refine tS ?_
   refine tR fun _ _ _ => ?_
   iterate 3 refine pV ?_
   exact tr_ret ⟨trivial, _, _, rfl, ⟨_, rfl, B, cb, by rw [hlo], rfl⟩, cs _ _, trivial, trivial⟩
end Go.Proofs.Ytdkahdehodopoaa

namespace Go.Proofs.Ytdkahdehodopoaa
def msL (q n : Nat) (l : List Int) : Int := (l.map fun d => muB (n / d.toNat) * ((q ^ d.toNat : Nat) : Int)).sum
theorem msL_snoc (q n : Nat) (l : List Int) (d : Int) : msL q n (l ++ [d]) = msL q n l + muB (n / d.toNat) * ((q ^ d.toNat : Nat) : Int) := by
 rw [msL, List.map_append, List.sum_append]; simp [msL]
theorem msL_dvS (q n : Nat) : msL q n (dvS n) = mSum q n n := by
 have key : ∀ k, msL q n (((List.range (k + 1)).filter fun d => decide (1 ≤ d) && decide (n % d = 0)).map fun d => ((d : Nat) : Int)) = mSum q n k := fun k => by
  induction k with
  | zero => rfl
  | succ k ih =>
   rw [List.range_succ, List.filter_append, List.map_append, mSum, sumZ, ← mSum, ← ih]
   by_cases h : n % (k + 1) = 0
   ·rw [if_pos h, List.filter_cons_of_pos (by simp [h]), List.filter_nil, List.map_cons, List.map_nil, msL_snoc]; rfl
   ·rw [if_neg h, List.filter_cons_of_neg (by simp [h]), List.filter_nil, List.map_nil, List.append_nil, Int.add_zero]
 exact key n
theorem dvS_mem {n : Nat} {x : Int} (h : x ∈ dvS n) : 1 ≤ x ∧ x ≤ n ∧ n % x.toNat = 0 := by
 rw [dvS, List.mem_map] at h
 obtain ⟨d, hd, rfl⟩ := h
 rw [List.mem_filter, List.mem_range, Bool.and_eq_true, decide_eq_true_eq, decide_eq_true_eq] at hd
 exact ⟨by omega, by omega, by rw [Int.toNat_natCast]; exact hd.2.2⟩
theorem toNat_div {a b : Int} (ha : 0 ≤ a) (hb : 0 ≤ b) : (a / b).toNat = a.toNat / b.toNat := by
 obtain ⟨x, rfl⟩ := Int.eq_ofNat_of_zero_le ha
 obtain ⟨y, rfl⟩ := Int.eq_ofNat_of_zero_le hb
 rw [← Int.natCast_ediv]; rfl
theorem muB_val (n : Nat) : muB n = 1 ∨ muB n = -1 ∨ muB n = 0 := by
 unfold muB muL
 split
 ·split
  ·exact .inl rfl
  ·exact .inr (.inl rfl)
 ·exact .inr (.inr rfl)
end Go.Proofs.Ytdkahdehodopoaa

set_option maxRecDepth 100000
namespace Go.Proofs.Ytdkahdehodopoaa
open Go.RowKit
theorem fac_Count_ent : Enters Try.prog 14 := enters_of Try.func14 (by kernel_rfl) (by kernel_rfl)
theorem fac_Count (g : GfM) {p m : Int} {mod : List Int} [hF : IsF p m mod] (hg : GOk g p m mod) (N : Nat → Nat) (hN : IsCnt (pw p m).toNat N) (n : Int) (hn1 : 1 ≤ n) (hn9 : n ≤ 256) :
  Pure Try.prog 14 #[.pointer (some g.p), .int .i64 n] [gfR g] (one (fun v ch => ∃ B, v = .tuple #[.slice B (lmb (N n.toNat)).length (lmb (N n.toNat)).length, .int .i64 0] ∧ ch = rx B (w32 (lmb (N n.toNat))))) := by
 have hgq := hg.eq
 have hq2 := hF.q2
 have hq256 := hF.out.1.1.q
 have hdl := (dvS_ok (n := n.toNat) (by omega) (by omega)).2
 have hms := mSum_eq hN (n := n.toNat) (by omega) (by omega)
 rw [← msL_dvS] at hms
 have hql := lmb_len (n := (pw p m).toNat) (k := 1) (by omega)
 have hnl := lmb_len (n := n.toNat) (k := 1) (by omega)
 refine pure_of (args := [.pointer (some g.p), .int .i64 n]) 84 Try.func14 rfl rfl rfl fac_Count_ent ⟨id, trivial⟩ (fun w0 => ?_)
 refine tS ?_
 refine tR fun _ _ _ => ?_
 iterate 2 refine pV ?_
 refine tS ?_
 refine tS ?_
 refine tR fun _ _ _ => ?_
 iterate 3 refine pV ?_
 refine stg rfl rfl rfl rfl rfl (fun hb => by (have hq := hb; try simp only [zbA] at hq); exact rMove rfl rfl) ?_
 refine stg rfl rfl rfl rfl rfl (fun hb => by (have hq := hb; try simp only [zbA] at hq); exact rGtr rfl (evg rfl hb) rfl) ?_
 refine sV (rOrB rfl rfl rfl rfl) ?_
 refine tC rfl (fun h1 => ?_) (fun h1 => ?_)
 ·try simp only [zbA] at h1
  first | omega | (simp at h1; omega) --done
 ·try simp only [zbA] at h1
  refine tK ?_
  refine tS ?_
  refine tR fun _ _ _ => ?_
  refine pV ?_
  refine eV (eCall1 rfl rfl rfl (num_Divisors n hn1 hn9) ⟨rfl, trivial⟩ ?_)
  rintro _ _ ⟨B3, c3, rfl, rfl⟩
  iterate 5 refine pV ?_
  refine tS ?_
  refine tR fun _ _ _ => ?_
  iterate 2 refine pV ?_
  refine tS ?_
  refine tS ?_
  refine tR fun _ _ _ => ?_
  refine pV ?_
  refine sV (rLen rfl rfl) ?_
  refine pV ?_
  refine tB ?_
  refine tr_nilW 86 ?_
  refine tr_nilW 86 ?_
  refine tr_loop9 (fun (i : Int) (P : Option Addr) (cp : Nat) (a : List Int) (s : Nat) (R : Option Addr) (cr : Nat) (b : List Int) (t : Nat) => [(34, .int .i64 i), (8, .slice P a.length cp), (9, .slice R b.length cr), (33, .int .i64 (dvS n.toNat).length), (0, .pointer (some g.p)), (1, .int .i64 n), (4, .slice none 0 0), (5, .int .i64 0), (32, .slice B3 (dvS n.toNat).length c3)]) (fun (i : Int) (P : Option Addr) (cp : Nat) (a : List Int) (s : Nat) (R : Option Addr) (cr : Nat) (b : List Int) (t : Nat) => [ow P 86 cp (w32 a), ow R 86 cr (w32 b), gfR g, ow B3 3 c3 (ints (dvS n.toNat))]) (fun (i : Int) (P : Option Addr) (cp : Nat) (a : List Int) (s : Nat) (R : Option Addr) (cr : Nat) (b : List Int) (t : Nat) => (0 ≤ i ∧ i ≤ (dvS n.toNat).length) ∧ a = lmb s ∧ b = lmb t ∧ ((s : Int) - t = msL (pw p m).toNat n.toNat ((dvS n.toNat).take i.toNat)) ∧ (a.length : Int) ≤ 65 + i ∧ (b.length : Int) ≤ 65 + i) (fun (i : Int) (P : Option Addr) (cp : Nat) (a : List Int) (s : Nat) (R : Option Addr) (cr : Nat) (b : List Int) (t : Nat) => (((dvS n.toNat).length : Int) - i).toNat) (0) (none) (0) ([]) (0) (none) (0) ([]) (0) ⟨rfl, rfl, rfl, rfl, rfl, rfl, rfl, rfl, rfl, trivial⟩ (by first | exact cs _ _ | exact CSub.refl _) (⟨⟨by omega, by omega⟩, lmb_zero.symm, lmb_zero.symm, rfl, by simp, by simp⟩) (fun i P cp a s R cr b t hI => ?_)
  obtain ⟨⟨hi0, hi1⟩, ha, hb, hst, hal, hbl⟩ := hI
  refine tS ?_
  refine tR fun _ _ _ => ?_
  refine pV ?_
  refine tS ?_
  refine tC rfl (fun h6 => ?_) (fun h6 => ?_)
  ·try simp only [zbA] at h6
   refine tK ?_
   refine tS ?_
   refine tB ?_
   refine tS ?_
   have hil : i.toNat < (dvS n.toNat).length := by omega
   obtain ⟨hd1, hd9, hdm⟩ := dvS_mem (getD_mem hil 0)
   have hdq : 1 ≤ n / ((dvS n.toNat).getD i.toNat 0) := Int.le_ediv_of_mul_le (by omega) (by omega)
   have hdq9 : n / ((dvS n.toNat).getD i.toNat 0) ≤ n := Int.ediv_le_self _ (by omega)
   have hdt : (n / ((dvS n.toNat).getD i.toNat 0)).toNat = n.toNat / ((dvS n.toNat).getD i.toNat 0).toNat := toNat_div (by omega) (by omega)
   have hmv := muB_val (n / ((dvS n.toNat).getD i.toNat 0)).toNat
   have htk : (dvS n.toNat).take (i + 1).toNat = (dvS n.toNat).take i.toNat ++ [((dvS n.toNat).getD i.toNat 0)] := by
    rw [show (i + 1).toNat = i.toNat + 1 by omega, List.take_add_one, List.getElem?_eq_getElem hil, Option.toList_some, List.getD_eq_getElem?_getD, List.getElem?_eq_getElem hil]; rfl
   have hla : Lm a := by rw [ha]; exact lmb_lm _
   have hlb : Lm b := by rw [hb]; exact lmb_lm _
   have hva : vN a = (s : Int) := by rw [ha, vN_lmb]
   have hvb : vN b = (t : Int) := by rw [hb, vN_lmb]
   have hpl := pow_len (a := (pw p m).toNat) (e := ((dvS n.toNat).getD i.toNat 0).toNat) (by omega) (by omega)
   have hvq : (vN (lmb ((pw p m).toNat ^ ((dvS n.toNat).getD i.toNat 0).toNat))).toNat = ((pw p m).toNat ^ ((dvS n.toNat).getD i.toNat 0).toNat) := by rw [vN_lmb]; rfl
   have hs1 : (vN a).toNat = s := by omega
   have hs2 : (vN b).toNat = t := by omega
   have hlA : (lmb ((vN a).toNat + (vN (lmb ((pw p m).toNat ^ ((dvS n.toNat).getD i.toNat 0).toNat))).toNat)).length ≤ 65 + i.toNat + 1 := lmb_add_len (by rw [hs1, ← ha]; omega) (by rw [hvq]; omega)
   have hlB : (lmb ((vN b).toNat + (vN (lmb ((pw p m).toNat ^ ((dvS n.toNat).getD i.toNat 0).toNat))).toNat)).length ≤ 65 + i.toNat + 1 := lmb_add_len (by rw [hs2, ← hb]; omega) (by rw [hvq]; omega)
   have hsn := msL_snoc (pw p m).toNat n.toNat ((dvS n.toNat).take i.toNat) ((dvS n.toNat).getD i.toNat 0)
   rw [← htk, ← hst, ← hdt] at hsn
   refine tr_cap P 86 cp (w32 a) fun hca => ?_
   rw [w32_length] at hca
   refine tr_cap R 86 cr (w32 b) fun hcb => ?_
   rw [w32_length] at hcb
   refine tR fun _ _ _ => ?_
   refine sV (rIdxI rfl rfl rfl (by omega) (by omega) (by omega)) ?_
   refine sV (rLdI rfl rfl (by omega)) ?_
   refine pV ?_
   refine tS ?_
   refine tR fun _ _ _ => ?_
   iterate 2 refine pV ?_
   refine sV (rQuo rfl rfl rfl (by omega) (by omega)) ?_
   refine eV (eCallV rfl rfl rfl (num_Moebius (n / ((dvS n.toNat).getD i.toNat 0)) (by omega) (by omega)) ⟨rfl, trivial⟩ ?_)
   iterate 5 refine pV ?_
   refine tS ?_
   refine tR fun _ _ _ => ?_
   refine pV ?_
   refine eV (eCallV rfl rfl rfl (gf_Order g) ⟨rfl, trivial⟩ ?_)
   rw [hgq]
   refine sV (rConv rfl undI undU64 rfl (IntWalk.u64_in _ ⟨by omega, by omega⟩)) ?_
   refine eV (eCall1 rfl rfl rfl (nat_Of (pw p m) (by omega) (by omega)) ⟨rfl, trivial⟩ ?_)
   rintro _ _ ⟨B9a, c9a, rfl, rfl, hc9a⟩
   refine pV ?_
   refine eV (eCall1 rfl rfl rfl (nat_Pow B9a _ c9a (lmb (pw p m).toNat) rfl (lmb_lm _) (by omega) hc9a (by rw [vN_lmb]; omega) (by rw [vN_lmb]; omega) ((dvS n.toNat).getD i.toNat 0) (by omega) (by omega)) ⟨rfl, rfl, trivial⟩ ?_)
   rintro _ _ ⟨B9b, c9b, rfl, rfl, hc9b⟩
   iterate 5 refine pV ?_
   rw [show (vN (lmb (pw p m).toNat)).toNat = (pw p m).toNat by rw [vN_lmb]; rfl] at hc9b ⊢
   refine tS ?_
   refine tR fun _ _ _ => ?_
   refine pV ?_
   refine tB ?_
   refine tS ?_
   refine tR fun _ _ _ => ?_
   iterate 2 refine pV ?_
   refine tC rfl (fun h11 => ?_) (fun h11 => ?_)
   ·try simp only [zbA] at h11
    refine tR fun _ _ _ => ?_
    iterate 2 refine pV ?_
    refine eV (eLit2 rfl rfl rfl rfl rfl rfl rfl (fun A12 => ?_))
    refine eV (eCall1 rfl rfl rfl (nat_Add P _ cp a rfl hla (by omega) hca B9b _ c9b (lmb ((pw p m).toNat ^ ((dvS n.toNat).getD i.toNat 0).toNat)) rfl (lmb_lm _) (by omega) hc9b A12) ⟨rfl, trivial⟩ ?_)
    rintro _ _ ⟨B12a, c12a, rfl, rfl, hc12a⟩
    refine pV ?_
    refine tR fun _ _ _ => ?_
    refine sV (rAdd rfl rfl rfl (by omega) (by omega)) ?_
    refine pV ?_
    refine ⟨i + 1, B12a, c12a, lmb ((vN a).toNat + (vN (lmb ((pw p m).toNat ^ ((dvS n.toNat).getD i.toNat 0).toNat))).toNat), (vN a).toNat + (vN (lmb ((pw p m).toNat ^ ((dvS n.toNat).getD i.toNat 0).toNat))).toNat, R, cr, b, t, ⟨rfl, rfl, rfl, rfl, rfl, rfl, rfl, rfl, rfl, trivial⟩, by first | exact cs _ _ | exact CSub.refl _, ?_⟩
    rw [h11] at hsn
    exact ⟨⟨⟨by omega, by omega⟩, rfl, hb, by rw [hsn]; omega, by omega, by omega⟩, by omega⟩
   ·try simp only [zbA] at h11
    refine tS ?_
    refine tR fun _ _ _ => ?_
    iterate 2 refine pV ?_
    refine tC rfl (fun h13 => ?_) (fun h13 => ?_)
    ·try simp only [zbA] at h13
     refine tR fun _ _ _ => ?_
     iterate 2 refine pV ?_
     refine eV (eLit2 rfl rfl rfl rfl rfl rfl rfl (fun A14 => ?_))
     refine eV (eCall1 rfl rfl rfl (nat_Add R _ cr b rfl hlb (by omega) hcb B9b _ c9b (lmb ((pw p m).toNat ^ ((dvS n.toNat).getD i.toNat 0).toNat)) rfl (lmb_lm _) (by omega) hc9b A14) ⟨rfl, trivial⟩ ?_)
     rintro _ _ ⟨B14a, c14a, rfl, rfl, hc14a⟩
     refine pV ?_
     refine tR fun _ _ _ => ?_
     refine sV (rAdd rfl rfl rfl (by omega) (by omega)) ?_
     refine pV ?_
     refine ⟨i + 1, P, cp, a, s, B14a, c14a, lmb ((vN b).toNat + (vN (lmb ((pw p m).toNat ^ ((dvS n.toNat).getD i.toNat 0).toNat))).toNat), (vN b).toNat + (vN (lmb ((pw p m).toNat ^ ((dvS n.toNat).getD i.toNat 0).toNat))).toNat, ⟨rfl, rfl, rfl, rfl, rfl, rfl, rfl, rfl, rfl, trivial⟩, by first | exact cs _ _ | exact CSub.refl _, ?_⟩
     rw [h13] at hsn
     exact ⟨⟨⟨by omega, by omega⟩, ha, rfl, by rw [hsn]; omega, by omega, by omega⟩, by omega⟩
    ·try simp only [zbA] at h13
     refine tK ?_
     refine tR fun _ _ _ => ?_
     refine sV (rAdd rfl rfl rfl (by omega) (by omega)) ?_
     refine pV ?_
     refine ⟨i + 1, P, cp, a, s, R, cr, b, t, ⟨rfl, rfl, rfl, rfl, rfl, rfl, rfl, rfl, rfl, trivial⟩, by first | exact cs _ _ | exact CSub.refl _, ?_⟩
     have hm0 : muB (n / ((dvS n.toNat).getD i.toNat 0)).toNat = 0 := by omega
     rw [hm0] at hsn
     exact ⟨⟨⟨by omega, by omega⟩, ha, hb, by rw [hsn]; omega, by omega, by omega⟩, by omega⟩
  ·try simp only [zbA] at h6
   refine tE ?_
   refine tS ?_
   have hie : i.toNat = (dvS n.toNat).length := by omega
   rw [hie, List.take_length, hms] at hst
   have hla : Lm a := by rw [ha]; exact lmb_lm _
   have hlb : Lm b := by rw [hb]; exact lmb_lm _
   have hva : vN a = (s : Int) := by rw [ha, vN_lmb]
   have hvb : vN b = (t : Int) := by rw [hb, vN_lmb]
   have hsub : (vN a).toNat - (vN b).toNat = n.toNat * N n.toNat := by omega
   have hsl : (lmb ((vN a).toNat - (vN b).toNat)).length ≤ a.length := by rw [ha]; exact lmb_mono (by rw [← ha, hva]; omega)
   refine tr_cap P 86 cp (w32 a) fun hca => ?_
   rw [w32_length] at hca
   refine tr_cap R 86 cr (w32 b) fun hcb => ?_
   rw [w32_length] at hcb
   refine tR fun _ _ _ => ?_
   iterate 2 refine pV ?_
   refine eV (eCall1 rfl rfl rfl (nat_Sub P _ cp a rfl hla (by omega) hca R _ cr b rfl hlb (by omega) hcb (by omega)) ⟨rfl, rfl, trivial⟩ ?_)
   rintro _ _ ⟨B16, rfl, rfl⟩
   iterate 5 refine pV ?_
   refine tS ?_
   refine tR fun _ _ _ => ?_
   iterate 2 refine pV ?_
   refine sV (rConv rfl undI undU64 rfl (IntWalk.u64_in _ ⟨by omega, by omega⟩)) ?_
   refine eV (eCall1 rfl rfl rfl (nat_Of n (by omega) (by omega)) ⟨rfl, trivial⟩ ?_)
   rintro _ _ ⟨B17, c17, rfl, rfl, hc17⟩
   refine eV (eCall1 rfl rfl rfl (nat_DivMod B16 _ _ (lmb ((vN a).toNat - (vN b).toNat)) rfl (lmb_lm _) (by omega) (Nat.le_refl _) B17 _ c17 (lmb n.toNat) rfl (lmb_lm _) (by omega) hc17 (by rw [vN_lmb]; omega) (by rw [vN_lmb]; omega)) ⟨rfl, rfl, trivial⟩ ?_)
   rintro _ _ ⟨B17a, wr, rfl, rfl⟩
   iterate 7 refine pV ?_
   rw [show (vN (lmb ((vN a).toNat - (vN b).toNat))).toNat / (vN (lmb n.toNat)).toNat = N n.toNat by rw [vN_lmb, vN_lmb, Int.toNat_natCast, Int.toNat_natCast, hsub, Nat.mul_div_cancel_left _ (by omega)]]
   refine tS ?_
   refine tR fun _ _ _ => ?_
   iterate 3 refine pV ?_
   exact tr_ret ⟨trivial, _, _, rfl, ⟨_, rfl, B17a, rfl, rfl⟩, cs _ _, trivial, trivial⟩
end Go.Proofs.Ytdkahdehodopoaa

namespace Go.Proofs.Ytdkahdehodopoaa
open Po
theorem dig_ex {q : Nat} (hq : 1 ≤ q) : ∀ (n : Nat) (c : Nat → Nat), (∀ i, i < n → c i < q) → ∃ v, v < q ^ n ∧ ∀ i, i < n → v / q ^ i % q = c i
 | 0, c, _ => ⟨0, by rw [Nat.pow_zero]; omega, fun i h => by omega⟩
 | n + 1, c, h => by
  obtain ⟨v, h1, h2⟩ := dig_ex hq n (fun i => c (i + 1)) fun i hi => h (i + 1) (by omega)
  have h0 := h 0 (by omega)
  refine ⟨c 0 + q * v, ?_, fun i hi => ?_⟩
  ·rw [Nat.pow_succ, Nat.mul_comm (q ^ n) q]
   have := Nat.mul_le_mul_left q (show v + 1 ≤ q ^ n by omega)
   rw [Nat.mul_add, Nat.mul_one] at this
   omega
  ·cases i with
   | zero => rw [Nat.pow_zero, Nat.div_one, Nat.add_mul_mod_self_left, Nat.mod_eq_of_lt h0]
   | succ i =>
    rw [Nat.pow_succ, Nat.mul_comm (q ^ i), ← Nat.div_div_eq_div_mul, Nat.add_mul_div_left _ _ (by omega), Nat.div_eq_of_lt h0, Nat.zero_add]
    exact h2 i (by omega)
theorem dig_uniq {q : Nat} (hq : 1 ≤ q) : ∀ (n v w : Nat), v < q ^ n → w < q ^ n → (∀ i, i < n → v / q ^ i % q = w / q ^ i % q) → v = w
 | 0, v, w, h1, h2, _ => by rw [Nat.pow_zero] at h1 h2; omega
 | n + 1, v, w, h1, h2, h => by
  have e0 := h 0 (by omega)
  rw [Nat.pow_zero, Nat.div_one, Nat.div_one] at e0
  rw [Nat.pow_succ] at h1 h2
  have e1 := dig_uniq hq n (v / q) (w / q) (Nat.div_lt_of_lt_mul (by rw [Nat.mul_comm]; exact h1)) (Nat.div_lt_of_lt_mul (by rw [Nat.mul_comm]; exact h2)) fun i hi => by
   have := h (i + 1) (by omega)
   rwa [Nat.pow_succ, Nat.mul_comm (q ^ i), ← Nat.div_div_eq_div_mul, ← Nat.div_div_eq_div_mul] at this
  rw [← Nat.div_add_mod v q, ← Nat.div_add_mod w q, e0, e1]
def dgm (q n v : Nat) : List Int := ((List.range n).map fun i => ((v / q ^ i % q : Nat) : Int)) ++ [1]
theorem dgm_len (q n v : Nat) : (dgm q n v).length = n + 1 := by simp [dgm]
theorem dgm_get (q n v j : Nat) : (dgm q n v).getD j 0 = if j < n then ((v / q ^ j % q : Nat) : Int) else if j = n then 1 else 0 := by
 rw [dgm, List.getD_eq_getElem?_getD, List.getElem?_append, List.length_map, List.length_range]
 by_cases h : j < n
 ·rw [if_pos h, if_pos h, List.getElem?_map, List.getElem?_range h]; rfl
 ·rw [if_neg h, if_neg h]
  by_cases e : j = n
  ·rw [if_pos e, e, Nat.sub_self]; rfl
  ·rw [if_neg e, List.getElem?_eq_none (by simp; omega)]; rfl
section
variable {p m : Int} {mod : List Int} [hF : IsF p m mod]
noncomputable def dgP (p m : Int) (mod : List Int) [hF : IsF p m mod] (n v : Nat) : Po (El p m mod) := pol (dgm (pw p m).toNat n v)
theorem dgP_cf (n v j : Nat) : cf (dgP p m mod n v) j = if j < n then el ((v / (pw p m).toNat ^ j % (pw p m).toNat : Nat) : Int) else if j = n then 1 else 0 := by
 rw [dgP, cf_pol, dgm_get]
 split
 ·rfl
 ·split
  ·exact el_one
  ·exact el_zero
theorem dgP_len (n v : Nat) : len (dgP p m mod n v) = n + 1 ∧ lead (dgP p m mod n v) = 1 := by
 have h1 : cf (dgP p m mod n v) n = 1 := by rw [dgP_cf, if_neg (by omega), if_pos rfl]
 have h2 : len (dgP p m mod n v) = n + 1 := len_eq (fun j hj => by rw [dgP_cf, if_neg (by omega), if_neg (by omega)]) (by rw [h1]; exact Fd.one_ne)
 exact ⟨h2, by rw [lead, h2]; exact h1⟩
theorem dgP_inj {n v w : Nat} (hv : v < (pw p m).toNat ^ n) (hw : w < (pw p m).toNat ^ n) (h : dgP p m mod n v = dgP p m mod n w) : v = w := by
 have hq : 2 ≤ (pw p m).toNat := by have := hF.q2; omega
 refine dig_uniq (by omega) n v w hv hw fun i hi => ?_
 have h1 := congrArg (fun f => (cf f i).1) h
 simp only [dgP_cf, if_pos hi] at h1
 have a := Nat.mod_lt (v / (pw p m).toNat ^ i) (show 0 < (pw p m).toNat by omega)
 have b := Nat.mod_lt (w / (pw p m).toNat ^ i) (show 0 < (pw p m).toNat by omega)
 rw [el_in ⟨by omega, by omega⟩, el_in ⟨by omega, by omega⟩] at h1
 omega
theorem dgP_surj {n : Nat} {f : Po (El p m mod)} (hl : len f = n + 1) (h1 : lead f = 1) : ∃ v, v < (pw p m).toNat ^ n ∧ dgP p m mod n v = f := by
 have hq : 2 ≤ (pw p m).toNat := by have := hF.q2; omega
 obtain ⟨v, h2, h3⟩ := dig_ex (q := (pw p m).toNat) (by omega) n (fun i => (cf f i).1.toNat) fun i _ => by
  have := (cf f i).2; omega
 refine ⟨v, h2, Po.ext fun j => ?_⟩
 rw [dgP_cf]
 by_cases a : j < n
 ·rw [if_pos a, h3 j a, Int.toNat_of_nonneg (cf f j).2.1, el_of]
 ·rw [if_neg a]
  by_cases b : j = n
  ·rw [if_pos b, b, ← h1, lead, hl]; rfl
  ·rw [if_neg b, cf_ge (by omega)]
theorem dgP_count (n : Nat) : ((List.range ((pw p m).toNat ^ n)).filter fun v => @decide (Ir (dgP p m mod n v)) (Classical.propDecidable _)).length = irN p m mod n := by
 rw [irN, ← List.length_map (f := fun v => dgP p m mod n v)]
 refine List.Perm.length_eq ((List.perm_ext_iff_of_nodup ?_ (irD_nodup n)).2 fun f => ?_)
 ·rw [List.nodup_iff_pairwise_ne, List.pairwise_map]
  refine ((List.nodup_range (n := (pw p m).toNat ^ n)).filter _).imp_of_mem fun {a b} ha hb hab e => hab ?_
  exact dgP_inj (List.mem_range.1 (List.mem_filter.1 ha).1) (List.mem_range.1 (List.mem_filter.1 hb).1) e
 ·rw [List.mem_map, mem_irD]
  constructor
  ·rintro ⟨v, hv, rfl⟩
   have h := (List.mem_filter.1 hv).2
   simp only [decide_eq_true_eq] at h
   exact ⟨h, (dgP_len n v).2, (dgP_len n v).1⟩
  ·rintro ⟨a, b, c⟩
   obtain ⟨v, h1, rfl⟩ := dgP_surj c b
   exact ⟨v, List.mem_filter.2 ⟨List.mem_range.2 h1, by simp only [decide_eq_true_eq]; exact a⟩, rfl⟩
end
end Go.Proofs.Ytdkahdehodopoaa

/-
  ORDEREDDECODES, PART 9 OF 10. One sentence: the texts behind the law OrderedDecodes, put together.
  Conditions: each theorem's own, written out in it.
-/
import Derived.Test.YtfdjdokdabmmdaaGreatK8
set_option linter.unusedSimpArgs false
set_option linter.unusedVariables false
set_option linter.unusedSectionVars false
set_option maxRecDepth 100000
namespace Go.Proofs.YtfdjdokdabmmdaaGreat
open Go.RowKit
theorem cntC_powW {q : Int} (hq : 2 ≤ q) {k : Nat} {most : Int} (h : 0 < cntC q k most) : q.toNat ^ k ≤ 65536 := by
 unfold cntC at h
 split at h
 ·rename_i h1
  have h2 : ((q.toNat ^ k : Nat) : Int) = q ^ k := by rw [Int.natCast_pow, Int.toNat_of_nonneg (by omega)]
  omega
 ·omega
section
variable {p m : Int} {mod : List Int} [hF : IsF p m mod]
theorem bas_one {rs ts : List RowM} {bs b6 o6 : List Int} (hO6 : OrdS (rlF ts) ts.length o6) (hB6 : BasOf p m mod rs o6 b6) (hl6 : b6.length = rs.length) (hl : bs.length = rs.length) (h : 1 ≤ rs.length → ∃ ob, OrdS (rlF ts) ts.length ob ∧ BasOf p m mod rs ob bs) : bs = b6 := by
 by_cases hk : 1 ≤ rs.length
 ·obtain ⟨ob, h1, h2⟩ := h hk
  have := hO6.one h1
  subst this
  exact h2.one hB6
 ·rw [List.length_eq_zero_iff.1 (show bs.length = 0 by omega), List.length_eq_zero_iff.1 (show b6.length = 0 by omega)]
end
section
variable {p m : Int} {mod : List Int} [hF : IsF p m mod]
theorem bas_in {rs : List RowM} {r : Int → Int} {N : Nat} {o bs : List Int} (hO : OrdS r N o) (hB : BasOf p m mod rs o bs) {w : Int} (hw : (N : Int) = w) : ∀ b ∈ bs, 0 ≤ b ∧ b < w := fun b hb => by
 obtain ⟨E, qs, h1, h2, rfl⟩ := hB
 obtain ⟨q, hq, rfl⟩ := List.mem_map.1 hb
 obtain ⟨z, hz, rfl⟩ := List.getElem_of_mem hq
 have h4 := h1.lt z hz
 rw [List.getD_eq_getElem?_getD, List.getElem?_eq_getElem hz] at h4
 have h5 := hO.bd _ (getD_mem (show qs[z] < o.length from h4) 0)
 omega
theorem bas_le {rs : List RowM} {r : Int → Int} {N : Nat} {o bs : List Int} (hO : OrdS r N o) (hB : BasOf p m mod rs o bs) (hw : N ≤ 256) : bs.length ≤ 256 := by
 have := hB.le; have := hO.len; omega
end
section
variable {p m : Int} {mod : List Int} [hF : IsF p m mod]
theorem ref_word {cost : List Int → Int} {dif : List Int → Nat} {r w n z : Nat} {rs : List RowM} {o : List Int} (hw : w = n) (hn : 1 ≤ n) (h : RefI cost dif r (fun i => wordZ p m mod w rs i) z o) : o.length ≠ 0 → o.length = n ∧ AllIn (pw p m) o := fun h0 => by
 rcases h with ⟨h1, _⟩ | ⟨i0, _, h1, _⟩
 ·rw [h1] at h0; simp at h0
 ·rw [h1]; exact ⟨by rw [wordZ_length]; exact hw, wordZ_in _ _ _⟩
end
theorem cntC_val {q : Int} {k : Nat} {most : Int} (h : ¬ cntC q k most = 0) : cntC q k most = q ^ k ∧ cntC q k most ≤ 65536 := by
 unfold cntC at h ⊢
 split
 ·rename_i h1; exact ⟨rfl, h1.1⟩
 ·rename_i h1; rw [if_neg h1] at h; omega
theorem ref_Differ_ent : Enters Tryz.prog 19 := enters_of Tryz.func19 (by kernel_rfl) (by kernel_rfl)
theorem ref_Differ (X : Option Addr) (nx cx : Nat) (l : List Int) (hnx : nx = l.length) (Y : Option Addr) (ny cy : Nat) (y : List Int) (hny : ny = y.length) (Z : Option Addr) (nz cz : Nat) (z : List Int) (hnz : nz = z.length) (hz : ∀ b ∈ z, 0 ≤ b ∧ b < l.length ∧ b < y.length) (h9 : l.length ≤ 1000000) (h9z : z.length ≤ 1000000) :
  Pure Tryz.prog 19 #[.slice X nx cx, .slice Y ny cy, .slice Z nz cz] [ro X (ints l), ro Y (ints y), ro Z (ints z)] (isV (.int .i64 (difT z l y z.length))) := by
 refine pure_of (args := [.slice X nx cx, .slice Y ny cy, .slice Z nz cz]) 33 Tryz.func19 rfl rfl rfl ref_Differ_ent ⟨id, id, id, trivial⟩ (fun w0 => ?_)
 refine tS ?_
 refine tR fun _ _ _ => ?_
 refine pV ?_
 refine tS ?_
 refine tR fun _ _ _ => ?_
 refine pV ?_
 refine tS ?_
 refine tS ?_
 refine tR fun _ _ _ => ?_
 refine pV ?_
 refine tB ?_
 refine tr_loop2 (fun (k : Int) (a : Int) => [(8, .int .i64 k), (7, .int .i64 a), (0, .slice X nx cx), (1, .slice Y ny cy), (2, .slice Z nz cz), (6, .int .i64 0)]) (fun (k : Int) (a : Int) => [ro X (ints l), ro Y (ints y), ro Z (ints z)]) (fun (k : Int) (a : Int) => (0 ≤ k ∧ k ≤ nz) ∧ a = (difT z l y k.toNat : Int)) (fun (k : Int) (a : Int) => (nz - k).toNat) (0) (0) ⟨rfl, rfl, rfl, rfl, rfl, rfl, trivial⟩ (by first | exact cs _ _ | exact CSub.refl _) (⟨⟨by omega, by omega⟩, rfl⟩) (fun k a hI => ?_)
 obtain ⟨⟨hk0, hk1⟩, ha⟩ := hI
 refine tS ?_
 refine tS ?_
 refine tR fun _ _ _ => ?_
 iterate 2 refine pV ?_
 refine sV (rLen rfl rfl) ?_
 refine pV ?_
 refine tC rfl (fun h3 => ?_) (fun h3 => ?_)
 ·try simp only [zbA] at h3
  refine tK ?_
  refine tS ?_
  refine tB ?_
  refine tS ?_
  have hzk := hz _ (getD_mem (show k.toNat < z.length by omega) 0)
  have hdk := difT_le z l y k.toNat
  refine tr_draw [0, 1, 2, 3, 4, 5, 6, 7, 8, 9, 10, 11, 12, 13, 14] [] mixed (by kernel_rfl) fun _ _ _ => ?_
  iterate 3 refine pV ?_
  refine sV (rIdxI rfl rfl rfl (by omega) (by omega) (by omega)) ?_
  refine sV (rLdI rfl rfl (by omega)) ?_
  refine sV (rIdxI rfl rfl rfl (by omega) (by omega) (by omega)) ?_
  refine sV (rLdI rfl rfl (by omega)) ?_
  iterate 3 refine pV ?_
  refine sV (rIdxI rfl rfl rfl (by omega) (by omega) (by omega)) ?_
  refine sV (rLdI rfl rfl (by omega)) ?_
  refine sV (rIdxI rfl rfl rfl (by omega) (by omega) (by omega)) ?_
  refine sV (rLdI rfl rfl (by omega)) ?_
  refine pV ?_
  refine tC rfl (fun h5 => ?_) (fun h5 => ?_)
  ·try simp only [zbA] at h5
   refine tR fun _ _ _ => ?_
   refine pV ?_
   refine sV (rAdd rfl rfl rfl (by omega) (by omega)) ?_
   refine pV ?_
   refine tR fun _ _ _ => ?_
   refine pV ?_
   refine sV (rAdd rfl rfl rfl (by omega) (by omega)) ?_
   refine pV ?_
   refine ⟨k + 1, a + 1, ⟨rfl, rfl, rfl, rfl, rfl, rfl, trivial⟩, by first | exact cs _ _ | exact CSub.refl _, ?_⟩
   refine ⟨⟨⟨by omega, by omega⟩, ?_⟩, by omega⟩
   rw [show (k + 1).toNat = k.toNat + 1 by omega, difT, if_pos (by omega)]; omega
  ·try simp only [zbA] at h5
   refine tK ?_
   refine tR fun _ _ _ => ?_
   refine pV ?_
   refine sV (rAdd rfl rfl rfl (by omega) (by omega)) ?_
   refine pV ?_
   refine ⟨k + 1, a, ⟨rfl, rfl, rfl, rfl, rfl, rfl, trivial⟩, by first | exact cs _ _ | exact CSub.refl _, ?_⟩
   refine ⟨⟨⟨by omega, by omega⟩, ?_⟩, by omega⟩
   rw [show (k + 1).toNat = k.toNat + 1 by omega, difT, if_neg (by omega)]; omega
 ·try simp only [zbA] at h3
  refine tE ?_
  refine tS ?_
  refine tR fun _ _ _ => ?_
  iterate 2 refine pV ?_
  have hkn : k.toNat = z.length := by omega
  exact tr_ret ⟨trivial, _, _, rfl, ⟨by rw [ha, hkn], rfl⟩, CSub.nil _, trivial⟩
theorem ref_ODecode_ent : Enters Tryz.prog 11 := enters_of Tryz.func11 (by kernel_rfl) (by kernel_rfl)
theorem ref_ODecode (p m : Int) (A : Option Addr) (c : Nat) (mod : List Int) [hF : IsF p m mod] (w : Int) (Aa : Option Addr) (n ca : Nat) (rs : List RowM) (hn : n = rs.length) (h9 : rs.length ≤ 256) (hc : CodeOk p m mod w rs) (hl9 : mod.length ≤ 17592186044415) (h9b : rs.length ≤ 17592186044415) (h8 : ∀ r ∈ rs, r.xs.length ≤ 17592186044415) (T : Option Addr) (nt ct : Nat) (ts : List RowM) (hnt : nt = ts.length) (t9 : ts.length ≤ 17592186044415) (t8 : ∀ r ∈ ts, r.xs.length ≤ 17592186044415) (ho : ordC (pw p m) w (xss ts) = 0) (r : Nat) (hr : r ≤ n) (N : Nat) (hN : N ≤ 65536) :
  Pure Tryz.prog 11 #[.agg #[.int .i64 p, .int .i64 m, .slice A mod.length c, .int .i64 w, .slice Aa n ca], .int .i64 N, .slice T nt ct, .int .i64 r] [ro A (ints mod), ro Aa (hdrs rs), rowsR rs, ro T (hdrs ts), rowsR ts] (one (fun v ch => ∃ B cb o bs, v = .slice B o.length cb ∧ ch = ow B 3 cb (ints o) ∧ (∃ ob, OrdS (rlF ts) ts.length ob ∧ BasOf p m mod rs ob bs) ∧ RefI (cstL (xss ts)) (fun x => difT bs x (hardL ts) bs.length) r (fun i => wordZ p m mod w.toNat rs i) N o)) := by
 have h9c := h9
 have hq2 := hF.q2
 have htab := ordC_zero ho
 have htl := htab.len
 have hq256 := hF.out.1.1.q
 have hn64 := hc.n64
 have hn1 := hc.n1
 have hgd := hc.good
 have hhi := hardL_in hq2 htab.row
 have hhl := hardL_length ts
 have hlen := hc.len
 refine pure_of (args := [.agg #[.int .i64 p, .int .i64 m, .slice A mod.length c, .int .i64 w, .slice Aa n ca], .int .i64 N, .slice T nt ct, .int .i64 r]) 49 Tryz.func11 rfl rfl rfl ref_ODecode_ent ⟨id, id, id, id, id, trivial⟩ (fun w0 => ?_)
 refine tS ?_
 refine tR fun _ _ _ => ?_
 refine eV (eBox rfl rfl rfl rfl rfl (fun p0 => ?_))
 refine pV ?_
 refine tS ?_
 refine tR fun _ _ _ => ?_
 refine pV ?_
 refine eV (eCall1 rfl rfl rfl (ref_OHard T nt ct ts hnt (pw p m) hq2 hq256 (by omega) htab.row) ⟨rfl, trivial⟩ ?_)
 rintro _ _ ⟨B1, c1, rfl, rfl⟩
 refine pV ?_
 refine tS ?_
 refine tR fun _ _ _ => ?_
 refine sV (rLdS rfl rfl rfl) ?_
 refine pV ?_
 refine eV (eCall1 rfl rfl rfl (ref_OBasis p m A c mod w Aa n ca rs hn h9c hc T nt ct ts hnt htab) ⟨rfl, rfl, trivial⟩ ?_)
 rintro _ _ ⟨B2, c2, bs, ob, rfl, rfl, hO2, hB2⟩
 refine pV ?_
 refine tS ?_
 have hbin := bas_in hO2 hB2 (show (ts.length : Int) = w by omega)
 have hbl := bas_le hO2 hB2 (by omega)
 refine tR fun _ _ _ => ?_
 refine pV ?_
 refine tS ?_
 refine tS ?_
 refine tR fun _ _ _ => ?_
 refine pV ?_
 refine tB ?_
 refine tr_nilI 3 ?_
 refine tr_loop4 (fun (z : Nat) (B : Option Addr) (cb : Nat) (o : List Int) => [(11, .slice B o.length cb), (12, .int .i64 z), (1, .int .i64 N), (2, .slice T nt ct), (3, .int .i64 r), (4, .pointer (some p0)), (8, .slice none 0 0), (9, .slice B1 (hardL ts).length c1), (10, .slice B2 bs.length c2)]) (fun (z : Nat) (B : Option Addr) (cb : Nat) (o : List Int) => [ow B 3 cb (ints o), ow B1 3 c1 (ints (hardL ts)), ow B2 3 c2 (ints bs), blk p0 27 [.int .i64 p, .int .i64 m, .slice A mod.length c, .int .i64 w, .slice Aa n ca], ro A (ints mod), ro Aa (hdrs rs), rowsR rs, ro T (hdrs ts), rowsR ts]) (fun (z : Nat) (B : Option Addr) (cb : Nat) (o : List Int) => z ≤ N ∧ RefI (cstL (xss ts)) (fun x => difT bs x (hardL ts) bs.length) r (fun i => wordZ p m mod w.toNat rs i) z o) (fun (z : Nat) (B : Option Addr) (cb : Nat) (o : List Int) => N - z) (0) (none) (0) ([]) ⟨rfl, rfl, rfl, rfl, rfl, rfl, rfl, rfl, rfl, trivial⟩ (by first | exact cs _ _ | exact CSub.refl _) (⟨by omega, RefI.zero _ _ _ _⟩) (fun z B cb o hI => ?_)
 obtain ⟨hz, hI⟩ := hI
 refine tS ?_
 refine tS ?_
 refine tR fun _ _ _ => ?_
 iterate 3 refine pV ?_
 refine tC rfl (fun h5 => ?_) (fun h5 => ?_)
 ·try simp only [zbA] at h5
  refine tK ?_
  refine tS ?_
  refine tB ?_
  refine tS ?_
  refine tR fun _ _ _ => ?_
  refine sV (rLdS rfl rfl rfl) ?_
  refine pV ?_
  refine eV (eCall1 rfl rfl rfl (ref_CAt p m A c mod w Aa n ca rs hn h9c hc z (by omega) (by omega)) ⟨rfl, rfl, trivial⟩ ?_)
  rintro _ _ ⟨B7, c7, rfl, rfl⟩
  refine pV ?_
  refine tS ?_
  have hwl := wordZ_length (p := p) (m := m) (mod := mod) w.toNat rs z
  have hwi := wordZ_in (p := p) (m := m) (mod := mod) w.toNat rs z
  have hb2 : ∀ b ∈ bs, 0 ≤ b ∧ b < (wordZ p m mod w.toNat rs z).length ∧ b < (hardL ts).length := fun b hb => by have := hbin b hb; omega
  have hbw := ref_word (show w.toNat = ts.length by omega) (by omega) hI
  refine tR fun _ _ _ => ?_
  iterate 3 refine pV ?_
  refine eV (eCallV rfl rfl rfl (ref_Differ B7 _ c7 (wordZ p m mod w.toNat rs z) rfl B1 _ c1 (hardL ts) rfl B2 _ c2 bs rfl hb2 (by omega) (by omega)) ⟨rfl, rfl, rfl, trivial⟩ ?_)
  iterate 3 refine pV ?_
  refine stg rfl rfl rfl rfl rfl (fun hb => by (have hq := hb; try simp only [zbA] at hq); exact rMove rfl rfl) ?_
  refine stg rfl rfl rfl rfl rfl (fun hb => by (have hq := hb; try simp only [zbA] at hq); exact rLen rfl (evg rfl hb)) ?_
  refine stg rfl rfl rfl rfl rfl (fun hb => by (have hq := hb; try simp only [zbA] at hq); exact rEql rfl (evg rfl hb) rfl) ?_
  refine stg rfl rfl rfl rfl rfl (fun hb => by (have hq := hb; try simp only [zbA] at hq); exact rMove rfl (evg rfl hb)) ?_
  refine stg2 rfl rfl rfl rfl rfl (fun hb => by (have hq := hb; try simp only [zbA] at hq); exact rMove rfl rfl) ?_
  refine stg2 rfl rfl rfl rfl rfl (fun hb => by (have hq := hb; try simp only [zbA] at hq); exact rMove rfl rfl) ?_
  refine efg2 rfl rfl rfl rfl rfl (fun hb => by (have hq := hb; try simp only [zbA] at hq); exact eCallV rfl rfl rfl (ref_OCost T nt ct ts hnt (pw p m) hq2 hq256 (by omega) htab.row B7 _ c7 (wordZ p m mod w.toNat rs z) rfl (by omega) hwi) ⟨(evg rfl hb), (evg rfl hb), trivial⟩ ⟨rfl, rfl⟩) ?_
  refine stg2 rfl rfl rfl rfl rfl (fun hb => by (have hq := hb; try simp only [zbA] at hq); exact rMove rfl rfl) ?_
  refine stg2 rfl rfl rfl rfl rfl (fun hb => by (have hq := hb; try simp only [zbA] at hq); exact rMove rfl rfl) ?_
  refine efg2 rfl rfl rfl rfl rfl (fun hb => by (have hq := hb; try simp only [zbA] at hq); exact eCallV rfl rfl rfl (ref_OCost T nt ct ts hnt (pw p m) hq2 hq256 (by omega) htab.row B _ cb o rfl (hbw (by omega)).1 (hbw (by omega)).2) ⟨(evg rfl hb), (evg rfl hb), trivial⟩ ⟨rfl, rfl⟩) ?_
  refine stg2 rfl rfl rfl rfl rfl (fun hb => by (have hq := hb; try simp only [zbA] at hq); exact rLss rfl (evg rfl hb) (evg rfl hb)) ?_
  refine stg rfl rfl rfl rfl rfl (fun hb => by (have hq := hb; try simp only [zbA] at hq); exact rOrB rfl (evg rfl hb) rfl (evgp rfl hb)) ?_
  refine sV (rAndB rfl rfl rfl rfl) ?_
  refine tC rfl (fun h8 => ?_) (fun h8 => ?_)
  ·try simp only [zbA] at h8
   refine tR fun _ _ _ => ?_
   iterate 2 refine pV ?_
   refine tR fun _ _ _ => ?_
   refine pV ?_
   refine sV (rAdd rfl rfl rfl (by omega) (by omega)) ?_
   refine pV ?_
   refine ⟨z + 1, B7, c7, (wordZ p m mod w.toNat rs z), ⟨rfl, rfl, rfl, rfl, rfl, rfl, rfl, rfl, rfl, trivial⟩, by first | exact cs _ _ | exact CSub.refl _, ?_⟩
   exact ⟨⟨by omega, hI.take (fun i h => by have := congrArg List.length h; rw [wordZ_length] at this; simp at this; omega) (by omega) (h8.2.elim (fun h => .inl (List.length_eq_zero_iff.1 (by omega))) .inr)⟩, by omega⟩
  ·try simp only [zbA] at h8
   refine tK ?_
   refine tR fun _ _ _ => ?_
   refine pV ?_
   refine sV (rAdd rfl rfl rfl (by omega) (by omega)) ?_
   refine pV ?_
   refine ⟨z + 1, B, cb, o, ⟨rfl, rfl, rfl, rfl, rfl, rfl, rfl, rfl, rfl, trivial⟩, by first | exact cs _ _ | exact CSub.refl _, ?_⟩
   exact ⟨⟨by omega, hI.pass (fun h => h8.elim (fun k => k (by omega)) (fun k => h.2.elim (fun e => k.1 (by rw [e]; rfl)) (fun e => k.2 e)))⟩, by omega⟩
 ·try simp only [zbA] at h5
  refine tE ?_
  refine tS ?_
  refine tR fun _ _ _ => ?_
  iterate 2 refine pV ?_
  have hzN : z = N := by omega
  subst hzN
  exact tr_ret ⟨trivial, _, _, rfl, ⟨_, rfl, B, cb, o, bs, rfl, rfl, ⟨ob, hO2, hB2⟩, hI⟩, cs _ _, trivial, trivial⟩
theorem law_OrderedDecodes_E_ent : Enters Tryz.prog 3 := enters_of Tryz.func3 (by kernel_rfl) (by kernel_rfl)
theorem law_OrderedDecodes_E (p m : Int) (A : Option Addr) (c : Nat) (mod : List Int) (hl9 : mod.length ≤ 17592186044415) (w : Int) (Aa : Option Addr) (n ca : Nat) (rs : List RowM) (hn : n = rs.length) (h9 : rs.length ≤ 17592186044415) (h8 : ∀ r ∈ rs, r.xs.length ≤ 17592186044415) (T : Option Addr) (nt ct : Nat) (ts : List RowM) (hnt : nt = ts.length) (t9 : ts.length ≤ 17592186044415) (t8 : ∀ r ∈ ts, r.xs.length ≤ 17592186044415) (r : Int) (he : codC p m mod w rs ≠ 0) :
  Pure Tryz.prog 3 #[.agg #[.int .i64 p, .int .i64 m, .slice A mod.length c, .int .i64 w, .slice Aa n ca], .slice T nt ct, .int .i64 r] [ro A (ints mod), ro Aa (hdrs rs), rowsR rs, ro T (hdrs ts), rowsR ts] (isV (.bool true)) := by
 have h8r := h8
 refine pure_of (args := [.agg #[.int .i64 p, .int .i64 m, .slice A mod.length c, .int .i64 w, .slice Aa n ca], .slice T nt ct, .int .i64 r]) 79 Tryz.func3 rfl rfl rfl law_OrderedDecodes_E_ent ⟨id, id, id, id, id, trivial⟩ (fun w0 => ?_)
 refine tS ?_
 refine tR fun _ _ _ => ?_
 refine eV (eBox rfl rfl rfl rfl rfl (fun p0 => ?_))
 refine pV ?_
 refine tS ?_
 refine tS ?_
 refine tR fun _ _ _ => ?_
 refine sV (rLdS rfl rfl rfl) ?_
 refine eV (eCall0 rfl rfl rfl (law42_fewC p m A c mod hl9 w Aa n ca rs hn h9 h8) ⟨rfl, trivial⟩ ?_)
 rintro _ ⟨b, rfl, hb⟩
 refine sV (rNotB rfl rfl) ?_
 refine tC rfl (fun h1 => ?_) (fun h1 => ?_)
 ·try simp only [zbA] at h1
  refine tS ?_
  refine tR fun _ _ _ => ?_
  refine pV ?_
  exact tr_ret ⟨trivial, _, _, rfl, ⟨rfl, rfl⟩, CSub.nil _, trivial⟩
 ·try simp only [zbA] at h1
  refine tK ?_
  refine tS ?_
  refine tR fun _ _ _ => ?_
  refine sV (rLdS rfl rfl rfl) ?_
  refine pV ?_
  refine eV (eCallV rfl rfl rfl (ref_OCheckE p m A c mod hl9 w Aa n ca rs hn h9 h8 he T nt ct ts hnt t9 t8) ⟨rfl, rfl, trivial⟩ ?_)
  refine pV ?_
  refine tS ?_
  refine tS ?_
  refine tR fun _ _ _ => ?_
  iterate 3 refine pV ?_
  refine skF rfl rfl (by simp [he]) rfl rfl ?_
  refine skF rfl rfl (by simp [he]) rfl rfl ?_
  refine skF rfl rfl (by simp [he]) rfl rfl ?_
  refine skU rfl rfl rfl rfl ?_
  refine skU rfl rfl rfl rfl ?_
  refine skU rfl rfl rfl rfl ?_
  refine skU rfl rfl rfl rfl ?_
  refine skU rfl rfl rfl rfl ?_
  refine skF rfl rfl (by simp [he]) rfl rfl ?_
  refine sV (rPick0 rfl rfl (by simp [he]) rfl) ?_
  refine tC rfl (fun h4 => ?_) (fun h4 => ?_)
  ·try simp only [zbA] at h4
   simp [he] at h4 --done
  ·try simp only [zbA] at h4
   refine tK ?_
   refine tS ?_
   refine tS ?_
   refine tR fun _ _ _ => ?_
   iterate 3 refine pV ?_
   refine skF rfl rfl (by simp [he]) rfl rfl ?_
   refine skF rfl rfl (by simp [he]) rfl rfl ?_
   refine skF rfl rfl (by simp [he]) rfl rfl ?_
   refine skF rfl rfl (by simp [he]) rfl rfl ?_
   refine sV (rPick0 rfl rfl (by simp [he]) rfl) ?_
   refine tC rfl (fun h6 => ?_) (fun h6 => ?_)
   ·try simp only [zbA] at h6
    simp [he] at h6 --done
   ·try simp only [zbA] at h6
    refine tK ?_
    refine tS ?_
    refine tS ?_
    refine tR fun _ _ _ => ?_
    iterate 2 refine pV ?_
    refine tC rfl (fun h8 => ?_) (fun h8 => ?_)
    ·try simp only [zbA] at h8
     refine tS ?_
     refine tR fun _ _ _ => ?_
     refine sV (rLdS rfl rfl rfl) ?_
     iterate 2 refine pV ?_
     refine eV (eCallV rfl rfl rfl (ord_DecodeE p m A c mod hl9 w Aa n ca rs hn h9 h8r he T nt ct ts hnt t9 t8 r) ⟨rfl, rfl, rfl, trivial⟩ ?_)
     iterate 5 refine pV ?_
     refine tS ?_
     refine tR fun _ _ _ => ?_
     iterate 4 refine pV ?_
     refine stT rfl rfl rfl (by simp) rfl rfl (rMove rfl rfl) ?_
     refine stT rfl rfl rfl (by simp) rfl rfl (rLen rfl rfl) ?_
     refine stT rfl rfl rfl (by simp) rfl rfl (rEql rfl rfl rfl) ?_
     refine sV (rPick1 rfl rfl (by simp) rfl) ?_
     refine pV ?_
     exact tr_ret ⟨trivial, _, _, rfl, ⟨by simp, rfl⟩, CSub.nil _, trivial⟩
    ·try simp only [zbA] at h8
     omega --done
theorem law_OrderedDecodes_R_ent : Enters Tryz.prog 3 := enters_of Tryz.func3 (by kernel_rfl) (by kernel_rfl)
theorem law_OrderedDecodes_R (p m : Int) (A : Option Addr) (c : Nat) (mod : List Int) [hF : IsF p m mod] (w : Int) (Aa : Option Addr) (n ca : Nat) (rs : List RowM) (hn : n = rs.length) (h9 : rs.length ≤ 256) (hc : CodeOk p m mod w rs) (hl9 : mod.length ≤ 17592186044415) (h9b : rs.length ≤ 17592186044415) (h8 : ∀ r ∈ rs, r.xs.length ≤ 17592186044415) (T : Option Addr) (nt ct : Nat) (ts : List RowM) (hnt : nt = ts.length) (t9 : ts.length ≤ 17592186044415) (t8 : ∀ r ∈ ts, r.xs.length ≤ 17592186044415) (r : Int) (ho : ordC (pw p m) w (xss ts) ≠ 0) :
  Pure Tryz.prog 3 #[.agg #[.int .i64 p, .int .i64 m, .slice A mod.length c, .int .i64 w, .slice Aa n ca], .slice T nt ct, .int .i64 r] [ro A (ints mod), ro Aa (hdrs rs), rowsR rs, ro T (hdrs ts), rowsR ts] (isV (.bool true)) := by
 have h9c := h9
 refine pure_of (args := [.agg #[.int .i64 p, .int .i64 m, .slice A mod.length c, .int .i64 w, .slice Aa n ca], .slice T nt ct, .int .i64 r]) 79 Tryz.func3 rfl rfl rfl law_OrderedDecodes_R_ent ⟨id, id, id, id, id, trivial⟩ (fun w0 => ?_)
 refine tS ?_
 refine tR fun _ _ _ => ?_
 refine eV (eBox rfl rfl rfl rfl rfl (fun p0 => ?_))
 refine pV ?_
 refine tS ?_
 refine tS ?_
 refine tR fun _ _ _ => ?_
 refine sV (rLdS rfl rfl rfl) ?_
 refine eV (eCall0 rfl rfl rfl (law42_fewC p m A c mod hl9 w Aa n ca rs hn h9b h8) ⟨rfl, trivial⟩ ?_)
 rintro _ ⟨b, rfl, hb⟩
 refine sV (rNotB rfl rfl) ?_
 refine tC rfl (fun h1 => ?_) (fun h1 => ?_)
 ·try simp only [zbA] at h1
  refine tS ?_
  refine tR fun _ _ _ => ?_
  refine pV ?_
  exact tr_ret ⟨trivial, _, _, rfl, ⟨rfl, rfl⟩, CSub.nil _, trivial⟩
 ·try simp only [zbA] at h1
  refine tK ?_
  refine tS ?_
  refine tR fun _ _ _ => ?_
  refine sV (rLdS rfl rfl rfl) ?_
  refine pV ?_
  refine eV (eCallV rfl rfl rfl (ref_OCheck p m A c mod w Aa n ca rs hn h9c hc T nt ct ts hnt t9 t8) ⟨rfl, rfl, trivial⟩ ?_)
  refine pV ?_
  refine tS ?_
  refine tS ?_
  refine tR fun _ _ _ => ?_
  iterate 3 refine pV ?_
  refine skF rfl rfl (by simp [ho]) rfl rfl ?_
  refine skF rfl rfl (by simp [ho]) rfl rfl ?_
  refine skF rfl rfl (by simp [ho]) rfl rfl ?_
  refine skU rfl rfl rfl rfl ?_
  refine skU rfl rfl rfl rfl ?_
  refine skU rfl rfl rfl rfl ?_
  refine skU rfl rfl rfl rfl ?_
  refine skU rfl rfl rfl rfl ?_
  refine skF rfl rfl (by simp [ho]) rfl rfl ?_
  refine sV (rPick0 rfl rfl (by simp [ho]) rfl) ?_
  refine tC rfl (fun h4 => ?_) (fun h4 => ?_)
  ·try simp only [zbA] at h4
   simp [ho] at h4 --done
  ·try simp only [zbA] at h4
   refine tK ?_
   refine tS ?_
   refine tS ?_
   refine tR fun _ _ _ => ?_
   iterate 3 refine pV ?_
   refine skF rfl rfl (by simp [ho]) rfl rfl ?_
   refine skF rfl rfl (by simp [ho]) rfl rfl ?_
   refine skF rfl rfl (by simp [ho]) rfl rfl ?_
   refine skF rfl rfl (by simp [ho]) rfl rfl ?_
   refine sV (rPick0 rfl rfl (by simp [ho]) rfl) ?_
   refine tC rfl (fun h6 => ?_) (fun h6 => ?_)
   ·try simp only [zbA] at h6
    simp [ho] at h6 --done
   ·try simp only [zbA] at h6
    refine tK ?_
    refine tS ?_
    refine tS ?_
    refine tR fun _ _ _ => ?_
    iterate 2 refine pV ?_
    refine tC rfl (fun h8 => ?_) (fun h8 => ?_)
    ·try simp only [zbA] at h8
     refine tS ?_
     refine tR fun _ _ _ => ?_
     refine sV (rLdS rfl rfl rfl) ?_
     iterate 2 refine pV ?_
     refine eV (eCallV rfl rfl rfl (ord_DecodeR p m A c mod w Aa n ca rs hn h9c hc T nt ct ts hnt t9 t8 ho r) ⟨rfl, rfl, rfl, trivial⟩ ?_)
     iterate 5 refine pV ?_
     refine tS ?_
     refine tR fun _ _ _ => ?_
     iterate 4 refine pV ?_
     refine stT rfl rfl rfl (by simp) rfl rfl (rMove rfl rfl) ?_
     refine stT rfl rfl rfl (by simp) rfl rfl (rLen rfl rfl) ?_
     refine stT rfl rfl rfl (by simp) rfl rfl (rEql rfl rfl rfl) ?_
     refine sV (rPick1 rfl rfl (by simp) rfl) ?_
     refine pV ?_
     exact tr_ret ⟨trivial, _, _, rfl, ⟨by simp, rfl⟩, CSub.nil _, trivial⟩
    ·try simp only [zbA] at h8
     omega --done
theorem law_OrderedDecodes_O_ent : Enters Tryz.prog 3 := enters_of Tryz.func3 (by kernel_rfl) (by kernel_rfl)
theorem law_OrderedDecodes_O (p m : Int) (A : Option Addr) (c : Nat) (mod : List Int) [hF : IsF p m mod] (w : Int) (Aa : Option Addr) (n ca : Nat) (rs : List RowM) (hn : n = rs.length) (h9 : rs.length ≤ 256) (hc : CodeOk p m mod w rs) (hl9 : mod.length ≤ 17592186044415) (h9b : rs.length ≤ 17592186044415) (h8 : ∀ r ∈ rs, r.xs.length ≤ 17592186044415) (T : Option Addr) (nt ct : Nat) (ts : List RowM) (hnt : nt = ts.length) (t9 : ts.length ≤ 17592186044415) (t8 : ∀ r ∈ ts, r.xs.length ≤ 17592186044415) (r : Int) (ho : ordC (pw p m) w (xss ts) = 0) (hro : r < 0 ∨ r > n) :
  Pure Tryz.prog 3 #[.agg #[.int .i64 p, .int .i64 m, .slice A mod.length c, .int .i64 w, .slice Aa n ca], .slice T nt ct, .int .i64 r] [ro A (ints mod), ro Aa (hdrs rs), rowsR rs, ro T (hdrs ts), rowsR ts] (isV (.bool true)) := by
 have h9c := h9
 refine pure_of (args := [.agg #[.int .i64 p, .int .i64 m, .slice A mod.length c, .int .i64 w, .slice Aa n ca], .slice T nt ct, .int .i64 r]) 79 Tryz.func3 rfl rfl rfl law_OrderedDecodes_O_ent ⟨id, id, id, id, id, trivial⟩ (fun w0 => ?_)
 refine tS ?_
 refine tR fun _ _ _ => ?_
 refine eV (eBox rfl rfl rfl rfl rfl (fun p0 => ?_))
 refine pV ?_
 refine tS ?_
 refine tS ?_
 refine tR fun _ _ _ => ?_
 refine sV (rLdS rfl rfl rfl) ?_
 refine eV (eCall0 rfl rfl rfl (law42_fewC p m A c mod hl9 w Aa n ca rs hn h9b h8) ⟨rfl, trivial⟩ ?_)
 rintro _ ⟨b, rfl, hb⟩
 refine sV (rNotB rfl rfl) ?_
 refine tC rfl (fun h1 => ?_) (fun h1 => ?_)
 ·try simp only [zbA] at h1
  refine tS ?_
  refine tR fun _ _ _ => ?_
  refine pV ?_
  exact tr_ret ⟨trivial, _, _, rfl, ⟨rfl, rfl⟩, CSub.nil _, trivial⟩
 ·try simp only [zbA] at h1
  refine tK ?_
  refine tS ?_
  refine tR fun _ _ _ => ?_
  refine sV (rLdS rfl rfl rfl) ?_
  refine pV ?_
  refine eV (eCallV rfl rfl rfl (ref_OCheck p m A c mod w Aa n ca rs hn h9c hc T nt ct ts hnt t9 t8) ⟨rfl, rfl, trivial⟩ ?_)
  refine pV ?_
  refine tS ?_
  refine tS ?_
  refine tR fun _ _ _ => ?_
  iterate 3 refine pV ?_
  refine stT rfl rfl rfl (by simp [ho]) rfl rfl (rMove rfl rfl) ?_
  refine stT rfl rfl rfl (by simp [ho]) rfl rfl (rLss rfl rfl rfl) ?_
  refine stT rfl rfl rfl (by simp [ho]) rfl rfl (rMove rfl rfl) ?_
  refine stg rfl rfl rfl rfl rfl (fun hb => by (have hq := hb; try simp only [zbA] at hq); exact rMove rfl rfl) ?_
  refine stg rfl rfl rfl rfl rfl (fun hb => by (have hq := hb; try simp only [zbA] at hq); exact rFld rfl rfl) ?_
  refine stg rfl rfl rfl rfl rfl (fun hb => by (have hq := hb; try simp only [zbA] at hq); exact rLdF rfl (evg rfl hb) rfl) ?_
  refine stg rfl rfl rfl rfl rfl (fun hb => by (have hq := hb; try simp only [zbA] at hq); exact rLen rfl (evg rfl hb)) ?_
  refine stg rfl rfl rfl rfl rfl (fun hb => by (have hq := hb; try simp only [zbA] at hq); exact rGtr rfl (evg rfl hb) (evg rfl hb)) ?_
  refine stT rfl rfl rfl (by simp [ho]) rfl rfl (rOrB rfl rfl rfl rfl) ?_
  refine sV (rPick1 rfl rfl (by simp [ho]) rfl) ?_
  refine tC rfl (fun h4 => ?_) (fun h4 => ?_)
  ·try simp only [zbA] at h4
   refine tR fun _ _ _ => ?_
   refine pV ?_
   refine tS ?_
   refine tS ?_
   refine tR fun _ _ _ => ?_
   iterate 3 refine pV ?_
   refine skF rfl rfl (by simp) rfl rfl ?_
   refine skF rfl rfl (by simp) rfl rfl ?_
   refine skF rfl rfl (by simp) rfl rfl ?_
   refine skF rfl rfl (by simp) rfl rfl ?_
   refine sV (rPick0 rfl rfl (by simp) rfl) ?_
   refine tC rfl (fun h6 => ?_) (fun h6 => ?_)
   ·try simp only [zbA] at h6
    simp at h6 --done
   ·try simp only [zbA] at h6
    refine tK ?_
    refine tS ?_
    refine tS ?_
    refine tR fun _ _ _ => ?_
    iterate 2 refine pV ?_
    refine tC rfl (fun h8 => ?_) (fun h8 => ?_)
    ·try simp only [zbA] at h8
     refine tS ?_
     refine tR fun _ _ _ => ?_
     refine sV (rLdS rfl rfl rfl) ?_
     iterate 2 refine pV ?_
     refine eV (eCallV rfl rfl rfl (ord_DecodeO p m A c mod w Aa n ca rs hn h9c hc T nt ct ts hnt t9 t8 ho r hro) ⟨rfl, rfl, rfl, trivial⟩ ?_)
     iterate 5 refine pV ?_
     refine tS ?_
     refine tR fun _ _ _ => ?_
     iterate 4 refine pV ?_
     refine stT rfl rfl rfl (by simp) rfl rfl (rMove rfl rfl) ?_
     refine stT rfl rfl rfl (by simp) rfl rfl (rLen rfl rfl) ?_
     refine stT rfl rfl rfl (by simp) rfl rfl (rEql rfl rfl rfl) ?_
     refine sV (rPick1 rfl rfl (by simp) rfl) ?_
     refine pV ?_
     exact tr_ret ⟨trivial, _, _, rfl, ⟨by simp, rfl⟩, CSub.nil _, trivial⟩
    ·try simp only [zbA] at h8
     simp at h8 --done
  ·try simp only [zbA] at h4
   simp at h4
   omega --done
theorem law_OrderedDecodes_B_ent : Enters Tryz.prog 3 := enters_of Tryz.func3 (by kernel_rfl) (by kernel_rfl)
theorem law_OrderedDecodes_B (p m : Int) (A : Option Addr) (c : Nat) (mod : List Int) [hF : IsF p m mod] (w : Int) (Aa : Option Addr) (n ca : Nat) (rs : List RowM) (hn : n = rs.length) (h9 : rs.length ≤ 256) (hc : CodeOk p m mod w rs) (hl9 : mod.length ≤ 17592186044415) (h9b : rs.length ≤ 17592186044415) (h8 : ∀ r ∈ rs, r.xs.length ≤ 17592186044415) (T : Option Addr) (nt ct : Nat) (ts : List RowM) (hnt : nt = ts.length) (t9 : ts.length ≤ 17592186044415) (t8 : ∀ r ∈ ts, r.xs.length ≤ 17592186044415) (r : Nat) (hr : r ≤ n) (ho : ordC (pw p m) w (xss ts) = 0) (hbig : 65536 < sbin ((pw p m).toNat - 1) rs.length (r + 1)) :
  Pure Tryz.prog 3 #[.agg #[.int .i64 p, .int .i64 m, .slice A mod.length c, .int .i64 w, .slice Aa n ca], .slice T nt ct, .int .i64 r] [ro A (ints mod), ro Aa (hdrs rs), rowsR rs, ro T (hdrs ts), rowsR ts] (isV (.bool true)) := by
 have h9c := h9
 refine pure_of (args := [.agg #[.int .i64 p, .int .i64 m, .slice A mod.length c, .int .i64 w, .slice Aa n ca], .slice T nt ct, .int .i64 r]) 79 Tryz.func3 rfl rfl rfl law_OrderedDecodes_B_ent ⟨id, id, id, id, id, trivial⟩ (fun w0 => ?_)
 refine tS ?_
 refine tR fun _ _ _ => ?_
 refine eV (eBox rfl rfl rfl rfl rfl (fun p0 => ?_))
 refine pV ?_
 refine tS ?_
 refine tS ?_
 refine tR fun _ _ _ => ?_
 refine sV (rLdS rfl rfl rfl) ?_
 refine eV (eCall0 rfl rfl rfl (law42_fewC p m A c mod hl9 w Aa n ca rs hn h9b h8) ⟨rfl, trivial⟩ ?_)
 rintro _ ⟨b, rfl, hb⟩
 refine sV (rNotB rfl rfl) ?_
 refine tC rfl (fun h1 => ?_) (fun h1 => ?_)
 ·try simp only [zbA] at h1
  refine tS ?_
  refine tR fun _ _ _ => ?_
  refine pV ?_
  exact tr_ret ⟨trivial, _, _, rfl, ⟨rfl, rfl⟩, CSub.nil _, trivial⟩
 ·try simp only [zbA] at h1
  refine tK ?_
  refine tS ?_
  refine tR fun _ _ _ => ?_
  refine sV (rLdS rfl rfl rfl) ?_
  refine pV ?_
  refine eV (eCallV rfl rfl rfl (ref_OCheck p m A c mod w Aa n ca rs hn h9c hc T nt ct ts hnt t9 t8) ⟨rfl, rfl, trivial⟩ ?_)
  refine pV ?_
  refine tS ?_
  refine tS ?_
  refine tR fun _ _ _ => ?_
  iterate 3 refine pV ?_
  refine stT rfl rfl rfl (by simp [ho]) rfl rfl (rMove rfl rfl) ?_
  refine stT rfl rfl rfl (by simp [ho]) rfl rfl (rLss rfl rfl rfl) ?_
  refine stT rfl rfl rfl (by simp [ho]) rfl rfl (rMove rfl rfl) ?_
  refine stg rfl rfl rfl rfl rfl (fun hb => by (have hq := hb; try simp only [zbA] at hq); exact rMove rfl rfl) ?_
  refine stg rfl rfl rfl rfl rfl (fun hb => by (have hq := hb; try simp only [zbA] at hq); exact rFld rfl rfl) ?_
  refine stg rfl rfl rfl rfl rfl (fun hb => by (have hq := hb; try simp only [zbA] at hq); exact rLdF rfl (evg rfl hb) rfl) ?_
  refine stg rfl rfl rfl rfl rfl (fun hb => by (have hq := hb; try simp only [zbA] at hq); exact rLen rfl (evg rfl hb)) ?_
  refine stg rfl rfl rfl rfl rfl (fun hb => by (have hq := hb; try simp only [zbA] at hq); exact rGtr rfl (evg rfl hb) (evg rfl hb)) ?_
  refine stT rfl rfl rfl (by simp [ho]) rfl rfl (rOrB rfl rfl rfl rfl) ?_
  refine sV (rPick1 rfl rfl (by simp [ho]) rfl) ?_
  refine tC rfl (fun h4 => ?_) (fun h4 => ?_)
  ·try simp only [zbA] at h4
   simp at h4
   omega --done
  ·try simp only [zbA] at h4
   refine tK ?_
   refine tS ?_
   refine tS ?_
   refine tR fun _ _ _ => ?_
   iterate 3 refine pV ?_
   refine stT rfl rfl rfl (by simp [ho]) rfl rfl (rLdS rfl rfl rfl) ?_
   refine stT rfl rfl rfl (by simp [ho]) rfl rfl (rMove rfl rfl) ?_
   refine efT rfl rfl rfl (by simp [ho]) (eCallV rfl rfl rfl (ref_Patterns p m A c mod w Aa n ca rs hn h9c hc r hr) ⟨rfl, rfl, trivial⟩ ?_)
   refine stT rfl rfl rfl (by simp [ho]) rfl rfl (rNotB rfl rfl) ?_
   refine sV (rPick1 rfl rfl (by simp [ho]) rfl) ?_
   refine tC rfl (fun h6 => ?_) (fun h6 => ?_)
   ·try simp only [zbA] at h6
    refine tR fun _ _ _ => ?_
    refine pV ?_
    refine tS ?_
    refine tS ?_
    refine tR fun _ _ _ => ?_
    iterate 2 refine pV ?_
    refine tC rfl (fun h8 => ?_) (fun h8 => ?_)
    ·try simp only [zbA] at h8
     refine tS ?_
     refine tR fun _ _ _ => ?_
     refine sV (rLdS rfl rfl rfl) ?_
     iterate 2 refine pV ?_
     refine eV (eCallV rfl rfl rfl (ord_DecodeB p m A c mod w Aa n ca rs hn h9c hc T nt ct ts hnt t9 t8 ho r hr (by rw [hn]; exact hbig)) ⟨rfl, rfl, rfl, trivial⟩ ?_)
     iterate 5 refine pV ?_
     refine tS ?_
     refine tR fun _ _ _ => ?_
     iterate 4 refine pV ?_
     refine stT rfl rfl rfl (by simp) rfl rfl (rMove rfl rfl) ?_
     refine stT rfl rfl rfl (by simp) rfl rfl (rLen rfl rfl) ?_
     refine stT rfl rfl rfl (by simp) rfl rfl (rEql rfl rfl rfl) ?_
     refine sV (rPick1 rfl rfl (by simp) rfl) ?_
     refine pV ?_
     exact tr_ret ⟨trivial, _, _, rfl, ⟨by simp, rfl⟩, CSub.nil _, trivial⟩
    ·try simp only [zbA] at h8
     simp at h8 --done
   ·try simp only [zbA] at h6
    first | omega | (simp [ho] at h6; omega) | (simp at h6; omega) --done
theorem law_OrderedDecodes_G_ent : Enters Tryz.prog 3 := enters_of Tryz.func3 (by kernel_rfl) (by kernel_rfl)
theorem law_OrderedDecodes_G (p m : Int) (A : Option Addr) (c : Nat) (mod : List Int) [hF : IsF p m mod] (w : Int) (Aa : Option Addr) (n ca : Nat) (rs : List RowM) (hn : n = rs.length) (h9 : rs.length ≤ 256) (hc : CodeOk p m mod w rs) (hl9 : mod.length ≤ 17592186044415) (h9b : rs.length ≤ 17592186044415) (h8 : ∀ r ∈ rs, r.xs.length ≤ 17592186044415) (T : Option Addr) (nt ct : Nat) (ts : List RowM) (hnt : nt = ts.length) (t9 : ts.length ≤ 17592186044415) (t8 : ∀ r ∈ ts, r.xs.length ≤ 17592186044415) (r : Nat) (hr : r ≤ n) (ho : ordC (pw p m) w (xss ts) = 0) (hsm : sbin ((pw p m).toNat - 1) rs.length (r + 1) ≤ 65536) :
  Pure Tryz.prog 3 #[.agg #[.int .i64 p, .int .i64 m, .slice A mod.length c, .int .i64 w, .slice Aa n ca], .slice T nt ct, .int .i64 r] [ro A (ints mod), ro Aa (hdrs rs), rowsR rs, ro T (hdrs ts), rowsR ts] (isV (.bool true)) := by
 have h9c := h9
 have h8r := h8
 have hq2 := hF.q2
 have htab := ordC_zero ho
 have htl := htab.len
 have hq256 := hF.out.1.1.q
 have hn64 := hc.n64
 have hn1 := hc.n1
 have hgd := hc.good
 have hhi := hardL_in hq2 htab.row
 have hhl := hardL_length ts
 have hlen := hc.len
 refine pure_of (args := [.agg #[.int .i64 p, .int .i64 m, .slice A mod.length c, .int .i64 w, .slice Aa n ca], .slice T nt ct, .int .i64 r]) 79 Tryz.func3 rfl rfl rfl law_OrderedDecodes_G_ent ⟨id, id, id, id, id, trivial⟩ (fun w0 => ?_)
 refine tS ?_
 refine tR fun _ _ _ => ?_
 refine eV (eBox rfl rfl rfl rfl rfl (fun p0 => ?_))
 refine pV ?_
 refine tS ?_
 refine tS ?_
 refine tR fun _ _ _ => ?_
 refine sV (rLdS rfl rfl rfl) ?_
 refine eV (eCall0 rfl rfl rfl (law42_fewC p m A c mod hl9 w Aa n ca rs hn h9b h8) ⟨rfl, trivial⟩ ?_)
 rintro _ ⟨b, rfl, hb⟩
 refine sV (rNotB rfl rfl) ?_
 refine tC rfl (fun h1 => ?_) (fun h1 => ?_)
 ·try simp only [zbA] at h1
  refine tS ?_
  refine tR fun _ _ _ => ?_
  refine pV ?_
  exact tr_ret ⟨trivial, _, _, rfl, ⟨rfl, rfl⟩, CSub.nil _, trivial⟩
 ·try simp only [zbA] at h1
  refine tK ?_
  refine tS ?_
  refine tR fun _ _ _ => ?_
  refine sV (rLdS rfl rfl rfl) ?_
  refine pV ?_
  refine eV (eCallV rfl rfl rfl (ref_OCheck p m A c mod w Aa n ca rs hn h9c hc T nt ct ts hnt t9 t8) ⟨rfl, rfl, trivial⟩ ?_)
  refine pV ?_
  refine tS ?_
  refine tS ?_
  refine tR fun _ _ _ => ?_
  iterate 3 refine pV ?_
  refine stT rfl rfl rfl (by simp [ho]) rfl rfl (rMove rfl rfl) ?_
  refine stT rfl rfl rfl (by simp [ho]) rfl rfl (rLss rfl rfl rfl) ?_
  refine stT rfl rfl rfl (by simp [ho]) rfl rfl (rMove rfl rfl) ?_
  refine stg rfl rfl rfl rfl rfl (fun hb => by (have hq := hb; try simp only [zbA] at hq); exact rMove rfl rfl) ?_
  refine stg rfl rfl rfl rfl rfl (fun hb => by (have hq := hb; try simp only [zbA] at hq); exact rFld rfl rfl) ?_
  refine stg rfl rfl rfl rfl rfl (fun hb => by (have hq := hb; try simp only [zbA] at hq); exact rLdF rfl (evg rfl hb) rfl) ?_
  refine stg rfl rfl rfl rfl rfl (fun hb => by (have hq := hb; try simp only [zbA] at hq); exact rLen rfl (evg rfl hb)) ?_
  refine stg rfl rfl rfl rfl rfl (fun hb => by (have hq := hb; try simp only [zbA] at hq); exact rGtr rfl (evg rfl hb) (evg rfl hb)) ?_
  refine stT rfl rfl rfl (by simp [ho]) rfl rfl (rOrB rfl rfl rfl rfl) ?_
  refine sV (rPick1 rfl rfl (by simp [ho]) rfl) ?_
  refine tC rfl (fun h4 => ?_) (fun h4 => ?_)
  ·try simp only [zbA] at h4
   simp at h4
   omega --done
  ·try simp only [zbA] at h4
   refine tK ?_
   refine tS ?_
   refine tS ?_
   refine tR fun _ _ _ => ?_
   iterate 3 refine pV ?_
   refine stT rfl rfl rfl (by simp [ho]) rfl rfl (rLdS rfl rfl rfl) ?_
   refine stT rfl rfl rfl (by simp [ho]) rfl rfl (rMove rfl rfl) ?_
   refine efT rfl rfl rfl (by simp [ho]) (eCallV rfl rfl rfl (ref_Patterns p m A c mod w Aa n ca rs hn h9c hc r hr) ⟨rfl, rfl, trivial⟩ ?_)
   refine stT rfl rfl rfl (by simp [ho]) rfl rfl (rNotB rfl rfl) ?_
   refine sV (rPick1 rfl rfl (by simp [ho]) rfl) ?_
   refine tC rfl (fun h6 => ?_) (fun h6 => ?_)
   ·try simp only [zbA] at h6
    first | omega | (simp [ho] at h6; omega) | (simp at h6; omega) --done
   ·try simp only [zbA] at h6
    refine tK ?_
    refine tS ?_
    refine tS ?_
    refine tR fun _ _ _ => ?_
    iterate 2 refine pV ?_
    refine tC rfl (fun h8 => ?_) (fun h8 => ?_)
    ·try simp only [zbA] at h8
     simp [ho] at h8 --done
    ·try simp only [zbA] at h8
     refine tK ?_
     refine tS ?_
     refine tR fun _ _ _ => ?_
     refine sV (rLdS rfl rfl rfl) ?_
     refine eV (eCallV rfl rfl rfl (ref_CCount p m A c mod w Aa n ca rs hn h9c hc 1024) ⟨rfl, rfl, trivial⟩ ?_)
     refine pV ?_
     refine tS ?_
     refine tS ?_
     refine tR fun _ _ _ => ?_
     iterate 2 refine pV ?_
     refine tC rfl (fun h12 => ?_) (fun h12 => ?_)
     ·try simp only [zbA] at h12
      refine tS ?_
      refine tR fun _ _ _ => ?_
      refine pV ?_
      exact tr_ret ⟨trivial, _, _, rfl, ⟨rfl, rfl⟩, CSub.nil _, trivial⟩
     ·try simp only [zbA] at h12
      refine tK ?_
      refine tS ?_
      have hcv := cntC_val (q := pw p m) (k := rs.length) (most := 1024) h12
      have hcn : 0 < cntC (pw p m) rs.length 1024 := by
       have hpp : (0 : Int) < pw p m ^ rs.length := Int.pow_pos (by omega)
       omega
      refine tR fun _ _ _ => ?_
      refine sV (rLdS rfl rfl rfl) ?_
      iterate 2 refine pV ?_
      refine eV (eCall1 rfl rfl rfl (ord_Decode p m A c mod w Aa n ca rs hn h9c hc T nt ct ts hnt t9 t8 ho r hr (cntC_powW hq2 hcn)) ⟨rfl, rfl, rfl, trivial⟩ ?_)
      rintro _ _ ⟨B3, c3, o, bs, rfl, rfl, hbl, hbas, hol, hbst⟩
      iterate 5 refine pV ?_
      refine tS ?_
      refine tR fun _ _ _ => ?_
      iterate 3 refine pV ?_
      refine stT rfl rfl rfl (by simp) rfl rfl (rMove rfl rfl) ?_
      refine stT rfl rfl rfl (by simp) rfl rfl (rLdS rfl rfl rfl) ?_
      refine stT rfl rfl rfl (by simp) rfl rfl (rMove rfl rfl) ?_
      refine stT rfl rfl rfl (by simp) rfl rfl (rMove rfl rfl) ?_
      refine stT rfl rfl rfl (by simp) rfl rfl (rMove rfl rfl) ?_
      rw [show cntC (pw p m) rs.length 1024 = (((cntC (pw p m) rs.length 1024).toNat : Nat) : Int) by omega]
      refine efT rfl rfl rfl (by simp) (eCall1 rfl rfl rfl (ref_ODecode p m A c mod w Aa n ca rs hn h9 hc hl9 h9b h8r T nt ct ts hnt t9 t8 ho r hr (cntC (pw p m) rs.length 1024).toNat (by omega)) ⟨rfl, rfl, rfl, rfl, trivial⟩ ?_)
      rintro _ _ ⟨B5, c5, o5, b5, rfl, rfl, ⟨ob5, hO5, hB5⟩, hI5⟩
      have hl5 : b5.length = rs.length := hB5.dim hO5 (show formP p m mod ts.length rs by rw [show ts.length = w.toNat by omega]; exact hc.form)
      have hbe := bas_one hO5 hB5 hl5 hbl hbas
      subst hbe
      have hoo : o5 = o := ref_best (show w.toNat = ts.length by omega) hgd hc.form (by rw [← hcv.1]; exact hI5) hbst
      subst hoo
      refine efT rfl rfl rfl (by simp) (eCallV rfl rfl rfl (ref_SameInts _ _ _ o5 rfl _ _ _ o5 rfl (by omega)) ⟨rfl, rfl, trivial⟩ ?_)
      refine sV (rPick1 rfl rfl (by simp) rfl) ?_
      refine pV ?_
      exact tr_ret ⟨trivial, _, _, rfl, ⟨by simp, rfl⟩, CSub.nil _, trivial⟩
theorem law_OrderedDecodes (p m : Int) (A : Option Addr) (c : Nat) (mod : List Int) (hl9 : mod.length ≤ 17592186044415) (w : Int) (Aa : Option Addr) (n ca : Nat) (rs : List RowM) (hn : n = rs.length) (h9 : rs.length ≤ 17592186044415) (h8 : ∀ r ∈ rs, r.xs.length ≤ 17592186044415) (T : Option Addr) (nt ct : Nat) (ts : List RowM) (hnt : nt = ts.length) (t9 : ts.length ≤ 17592186044415) (t8 : ∀ r ∈ ts, r.xs.length ≤ 17592186044415) (r : Int) : Pure Tryz.prog 3 #[.agg #[.int .i64 p, .int .i64 m, .slice A mod.length c, .int .i64 w, .slice Aa n ca], .slice T nt ct, .int .i64 r] [ro A (ints mod), ro Aa (hdrs rs), rowsR rs, ro T (hdrs ts), rowsR ts] (isV (.bool true)) := by
 by_cases he : codC p m mod w rs = 0
 ·obtain ⟨hF0, hc⟩ := codC_zero he
  haveI hF : IsF p m mod := ⟨hF0⟩
  have hlen := hc.len
  by_cases ho : ordC (pw p m) w (xss ts) = 0
  ·by_cases hro : r < 0 ∨ r > n
   ·exact law_OrderedDecodes_O p m A c mod w Aa n ca rs hn (by omega) hc hl9 h9 h8 T nt ct ts hnt t9 t8 r ho hro
   ·obtain ⟨k, rfl⟩ : ∃ k : Nat, r = (k : Int) := ⟨r.toNat, by omega⟩
    rcases Nat.lt_or_ge 65536 (sbin ((pw p m).toNat - 1) rs.length (k + 1)) with hs | hs
    ·exact law_OrderedDecodes_B p m A c mod w Aa n ca rs hn (by omega) hc hl9 h9 h8 T nt ct ts hnt t9 t8 k (by omega) ho hs
    ·exact law_OrderedDecodes_G p m A c mod w Aa n ca rs hn (by omega) hc hl9 h9 h8 T nt ct ts hnt t9 t8 k (by omega) ho hs
  ·exact law_OrderedDecodes_R p m A c mod w Aa n ca rs hn (by omega) hc hl9 h9 h8 T nt ct ts hnt t9 t8 r ho
 ·exact law_OrderedDecodes_E p m A c mod hl9 w Aa n ca rs hn h9 h8 T nt ct ts hnt t9 t8 r he
end Go.Proofs.YtfdjdokdabmmdaaGreat

/-
  BCHSOLOMON, PART 5 OF 9. One sentence: the texts behind the law BchSolomon, put together.
  Conditions: each theorem's own, written out in it.
-/
import Derived.Test.YtgnmcoegdogfgaaGreatK4
set_option linter.unusedSimpArgs false
set_option linter.unusedVariables false
set_option linter.unusedSectionVars false
set_option linter.unusedSimpArgs false
set_option linter.unusedVariables false
set_option maxRecDepth 100000
namespace Go.Proofs.YtgnmcoegdogfgaaGreat
open Go.RowKit
section
variable {p m : Int} {mod : List Int} [hF : IsF p m mod]
noncomputable def vsR (rs : List RowM) : List (Vc (El p m mod)) := rs.map fun r => rw' r.xs
@[simp] theorem vsR_length (rs : List RowM) : (vsR rs : List (Vc (El p m mod))).length = rs.length := by simp [vsR]
theorem rw_nil : (rw' [] : Vc (El p m mod)) = 0 := Vc.ext fun j => el_zero
theorem vsR_get (rs : List RowM) (i : Nat) : (vsR rs : List (Vc (El p m mod))).getD i 0 = rw' (rs.getD i rowD).xs := by
  unfold vsR
  rw [List.getD_eq_getElem?_getD, List.getElem?_map, List.getD_eq_getElem?_getD]
  cases rs[i]? with
  | none => exact rw_nil.symm
  | some r => rfl
theorem vsR_set (rs : List RowM) (i : Nat) (r : RowM) : (vsR (rs.set i r) : List (Vc (El p m mod))) = (vsR rs).set i (rw' r.xs) := by
  unfold vsR; rw [List.map_set]
theorem vsR_at (rs : List RowM) (i c : Nat) : (vsR rs : List (Vc (El p m mod))).getD i 0 c = el ((rs.getD i rowD).xs.getD c 0) := by rw [vsR_get]; rfl
end
def Gd (q : Int) (w : Nat) (rs : List RowM) : Prop := ∀ r ∈ rs, r.xs.length = w ∧ AllIn q r.xs
theorem Gd.get {q : Int} {w : Nat} {rs : List RowM} (h : Gd q w rs) {i : Nat} (hi : i < rs.length) : (rs.getD i rowD).xs.length = w ∧ AllIn q (rs.getD i rowD).xs := h _ (getD_mem hi _)
theorem Gd.set {q : Int} {w : Nat} {rs : List RowM} (h : Gd q w rs) (i : Nat) {r : RowM} (h1 : r.xs.length = w) (h2 : AllIn q r.xs) : Gd q w (rs.set i r) := fun s hs => by
  rcases List.mem_or_eq_of_mem_set hs with hs | hs
  · exact h s hs
  · subst hs; exact ⟨h1, h2⟩
theorem Gd.perm {q : Int} {w : Nat} {rs qs : List RowM} (h : Gd q w rs) (hp : rs.Perm qs) : Gd q w qs := fun s hs => h s (hp.mem_iff.2 hs)
theorem row_set (rs : List RowM) (i j : Nat) (r : RowM) : (rs.set i r).getD j rowD = if i = j ∧ j < rs.length then r else rs.getD j rowD := by
  rw [List.getD_eq_getElem?_getD, List.getElem?_set]
  by_cases h : i = j
  · subst h
    by_cases h2 : i < rs.length
    · rw [if_pos rfl, if_pos h2, if_pos ⟨rfl, h2⟩]; rfl
    · rw [if_pos rfl, if_neg h2, if_neg (fun h => h2 h.2), List.getD_eq_getElem?_getD, List.getElem?_eq_none (by omega)]
  · rw [if_neg h, if_neg (fun e => h e.1), ← List.getD_eq_getElem?_getD]
theorem elim_eachV (A : Option Addr) (n cp : Nat) (rs : List RowM) (hn : n = rs.length) (ff : FuncId) (lb : List Value) (p5 p7 : Addr) (Gc : List Chunk) (hGc : NoEx Gc) (Φ : Value → Chunk → Chunk → Prop) (hf : Mut Tryz.prog ff ([(.slice A n cp : Value)] ++ lb).toArray [ow A 22 cp (hdrs rs), rowsCh 3 rs] Gc (two Φ)) (hex : ∀ u c d, Φ u c d → AllEx [c, d]) :
    Mut Tryz.prog 234 ([(.func (.func ff) #[] lb.toArray : Value)] ++ [(.pointer (some p5) : Value), .pointer (some p7)]).toArray [ow A 22 cp (hdrs rs), rowsCh 3 rs] [ro (some p5) [.slice A n cp], ro (some p7) [.slice none 0 0], bun Gc] (two (fun v ca cb => v = .tuple #[] ∧ ∃ u, Φ u ca cb)) :=
  elim_each A n cp rs hn ff lb p5 p7 Gc hGc Φ hf hex
theorem val_of_el {p m : Int} {mod : List Int} [hF : IsF p m mod] {xs : List Int} (h : AllIn (pw p m) xs) (j : Nat) (hj : True) (he : (el (xs.getD j 0) : El p m mod) = 1) : xs.getD j 0 = 1 := by
  have hb := h.get (by have := hF.q2; omega) j
  have := congrArg Subtype.val he
  rwa [el_in hb] at this
theorem mat_eliminate_ent : Enters Tryz.prog 214 := enters_of Tryz.func214 (by kernel_rfl) (by kernel_rfl)
theorem mat_eliminate (g : GfM) {p m : Int} {mod : List Int} [hF : IsF p m mod] (hg : GOk g p m mod) (w : Int) (hw0 : 0 ≤ w) (hw9 : w ≤ 1000000) (A : Option Addr) (n cp : Nat) (rs : List RowM) (hn : n = rs.length) (hr9 : rs.length ≤ 1000000) (hgd0 : Gd (pw p m) w.toNat rs) :
    Mut Tryz.prog 214 #[.pointer (some g.p), .slice A n cp, .int .i64 w, .slice none 0 0] [ow A 22 cp (hdrs rs), rowsCh 3 rs] [gfR g] (three (fun v ca cb cc => ∃ rs2 B cb2 ps qs d, v = .tuple #[.slice B ps.length cb2, .int .i64 d] ∧ ca = ow A 22 cp (hdrs rs2) ∧ cb = rowsCh 3 rs2 ∧ cc = ow B 3 cb2 (ints ps) ∧ ps = qs.map Int.ofNat ∧ rs2.length = rs.length ∧ Gd (pw p m) w.toNat rs2 ∧ qs.length ≤ rs.length ∧ Vc.Rr w.toNat ((vsR rs2 : List (Vc (El p m mod))).take qs.length) qs ∧ ∀ u, Vc.SpL ((vsR rs2 : List (Vc (El p m mod))).take qs.length) u ↔ Vc.SpL (vsR rs) u)) := by
  have hq2 := hF.q2
  refine mut_of (args := [.pointer (some g.p), .slice A n cp, .int .i64 w, .slice none 0 0]) 125 (F := [ow A 22 cp (hdrs rs), rowsCh 3 rs, gfR g]) rfl Tryz.func214 rfl rfl rfl mat_eliminate_ent (fun w0 => ?_)
  refine tr_seq ?_
  refine tr_region fun _ _ _ => ?_
  refine ef rfl rfl (eBox rfl rfl rfl rfl rfl (fun p0 => ?_)) 
  refine ef rfl rfl (eBox rfl rfl rfl rfl rfl (fun p0a => ?_)) 
  refine ef rfl rfl (eBox rfl rfl rfl rfl rfl (fun p0b => ?_)) 
  iterate 2 refine pu rfl rfl rfl rfl rfl ?_
  refine tr_seq ?_
  refine tr_region fun _ _ _ => ?_
  refine pu rfl rfl rfl rfl rfl ?_
  refine tr_seq ?_
  refine tr_region fun _ _ _ => ?_
  refine st rfl rfl rfl rfl (rFun rfl rfl rfl) ?_
  refine pu rfl rfl rfl rfl rfl ?_
  refine tr_seq ?_
  refine tr_region fun _ _ _ => ?_
  refine pu rfl rfl rfl rfl rfl ?_
  refine tr_seq ?_
  refine tr_seq ?_
  refine tr_region fun _ _ _ => ?_
  refine pu rfl rfl rfl rfl rfl ?_
  refine tr_block ?_
  refine tr_nilI 3 ?_
  refine tr_loop6 (fun (c : Int) (ps : List Int) (AP : Option Addr) (cP : Nat) (r2 : List RowM) (dd : Int) => [(2, .int .i64 w), (4, .pointer (some p0)), (5, .pointer (some p0a)), (10, .int .i64 dd), (11, .func (.func 234) #[] [.pointer (some p0a), .pointer (some p0b)].toArray), (12, .slice AP ps.length cP), (13, .int .i64 c)]) (fun (c : Int) (ps : List Int) (AP : Option Addr) (cP : Nat) (r2 : List RowM) (dd : Int) => [ow AP 3 cP (ints ps), ow A 22 cp (hdrs r2), rowsCh 3 r2, blk p0b 25 [.slice none 0 0], blk p0a 25 [.slice A n cp], blk p0 58 [.pointer (some g.p)], gfR g]) (fun (c : Int) (ps : List Int) (AP : Option Addr) (cP : Nat) (r2 : List RowM) (dd : Int) => (0 ≤ c ∧ c ≤ w) ∧ (r2.length = rs.length ∧ Gd (pw p m) w.toNat r2) ∧ ∃ qs, ps = qs.map Int.ofNat ∧ Vc.Eli (Vc.SpL (vsR rs : List (Vc (El p m mod)))) w.toNat (vsR r2) c.toNat qs) (fun (c : Int) (ps : List Int) (AP : Option Addr) (cP : Nat) (r2 : List RowM) (dd : Int) => (w - c).toNat) (0) ([]) (none) (0) (rs) (1) ⟨rfl, rfl, rfl, rfl, rfl, rfl, rfl, trivial⟩ (by first | exact cs _ _ | exact CSub.refl _) (⟨⟨by omega, by omega⟩, ⟨rfl, hgd0⟩, [], rfl, Vc.Eli.start fun i j hi hj => by rw [vsR_at, getD_out (by rw [(hgd0.get (by simpa using hi)).1]; omega), el_zero]⟩) (fun c ps AP cP r2 dd hI => ?_)
  obtain ⟨⟨hc0, hc1⟩, ⟨hrl, hgd⟩, qs, hps, hE⟩ := hI
  have hpl : ps.length = qs.length := by rw [hps, List.length_map]
  have hEl := hE.len
  rw [vsR_length] at hEl
  refine tr_seq ?_
  refine tr_seq ?_
  refine tr_region fun _ _ _ => ?_
  iterate 4 refine pu rfl rfl rfl rfl rfl ?_
  refine stg rfl rfl rfl rfl rfl (fun hb => by (have hq := hb; try simp only [zbA] at hq); exact rMove rfl rfl) ?_
  refine stg rfl rfl rfl rfl rfl (fun hb => by (have hq := hb; try simp only [zbA] at hq); exact rLen rfl (evg rfl hb)) ?_
  refine stg rfl rfl rfl rfl rfl (fun hb => by (have hq := hb; try simp only [zbA] at hq); exact rLd0 rfl rfl) ?_
  refine stg rfl rfl rfl rfl rfl (fun hb => by (have hq := hb; try simp only [zbA] at hq); exact rLen rfl (evg rfl hb)) ?_
  refine stg rfl rfl rfl rfl rfl (fun hb => by (have hq := hb; try simp only [zbA] at hq); exact rLss rfl (evg rfl hb) (evg rfl hb)) ?_
  refine st rfl rfl rfl rfl (rAndB rfl rfl rfl rfl) ?_
  refine tr_cond_bool rfl (fun h5 => ?_) (fun h5 => ?_)
  · try simp only [zbA] at h5
    refine tr_skip ?_
    refine tr_seq ?_
    refine tr_block ?_
    refine tr_seq ?_
    refine tr_region fun _ _ _ => ?_
    refine pu rfl rfl rfl rfl rfl ?_
    refine st rfl rfl rfl rfl (rLen rfl rfl) ?_
    refine ef rfl rfl (eAlloc rfl rfl rfl (fun p7 => ?_)) 
    refine ef rfl rfl (eSt0 rfl rfl rfl rfl rfl rfl ?_) 
    generalize hk : ((ps.length : Nat) : Int) = k
    refine tr_seq ?_
    refine tr_region fun _ _ _ => ?_
    refine st rfl rfl rfl rfl (rLd0 rfl rfl) ?_
    refine ef rfl rfl (eAlloc rfl rfl rfl (fun p8 => ?_)) 
    refine ef rfl rfl (eSt0 rfl rfl rfl rfl rfl rfl ?_) 
    refine tr_seq ?_
    refine tr_block ?_
    refine tr_loop1 (fun (ta : Int) => [(2, .int .i64 w), (4, .pointer (some p0)), (5, .pointer (some p0a)), (10, .int .i64 dd), (11, .func (.func 234) #[] [.pointer (some p0a), .pointer (some p0b)].toArray), (12, .slice AP ps.length cP), (13, .int .i64 c), (14, .pointer (some p7)), (15, .pointer (some p8))]) (fun (ta : Int) => [blk p8 3 [.int .i64 ta], blk p7 3 [.int .i64 k], ow AP 3 cP (ints ps), ow A 22 cp (hdrs r2), rowsCh 3 r2, blk p0b 25 [.slice none 0 0], blk p0a 25 [.slice A n cp], blk p0 58 [.pointer (some g.p)], gfR g]) (fun (ta : Int) => (k ≤ ta ∧ ta ≤ rs.length) ∧ ∀ i : Nat, k ≤ i → (i : Int) < ta → (r2.getD i rowD).xs.getD c.toNat 0 = 0) (fun (ta : Int) => (rs.length - ta).toNat) (k) ⟨rfl, rfl, rfl, rfl, rfl, rfl, rfl, rfl, rfl, trivial⟩ (by first | exact cs _ _ | exact CSub.refl _) (⟨⟨by omega, by omega⟩, fun i h1 h2 => by omega⟩) (fun ta hI => ?_)
    obtain ⟨⟨ht0, ht1⟩, htz⟩ := hI
    refine tr_seq ?_
    refine tr_seq ?_
    refine tr_region fun _ _ _ => ?_
    refine st rfl rfl rfl rfl (rLd0 rfl rfl) ?_
    refine st rfl rfl rfl rfl (rLd0 rfl rfl) ?_
    refine st rfl rfl rfl rfl (rLen rfl rfl) ?_
    iterate 2 refine pu rfl rfl rfl rfl rfl ?_
    refine stg rfl rfl rfl rfl rfl (fun hb => by (have hq := hb; try simp only [zbA] at hq); exact rLd0 rfl rfl) ?_
    refine stg rfl rfl rfl rfl rfl (fun hb => by (have hq := hb; try simp only [zbA] at hq); exact rLd0 rfl rfl) ?_
    refine stg rfl rfl rfl rfl rfl (fun hb => by (have hq := hb; try simp only [zbA] at hq); exact rIdxR rfl (evg rfl hb) (evg rfl hb) (by omega) (by omega) (by omega)) ?_
    refine stg rfl rfl rfl rfl rfl (fun hb => by (have hq := hb; try simp only [zbA] at hq); exact rLdR rfl (evg rfl hb) (by omega)) ?_
    refine stg rfl rfl rfl rfl rfl (fun hb => by (have hq := hb; try simp only [zbA] at hq); exact rMove rfl rfl) ?_
    refine stg rfl rfl rfl rfl rfl (fun hb => by (have hq := hb; try simp only [zbA] at hq); exact (haveI : InB ta.toNat r2.length := ⟨by omega⟩; have hw := (hgd.get (show ta.toNat < r2.length by omega)).1; rIdxI rfl (evg rfl hb) (evg rfl hb) (by omega) (by omega) (by omega))) ?_
    refine stg rfl rfl rfl rfl rfl (fun hb => by (have hq := hb; try simp only [zbA] at hq); exact (haveI : InB ta.toNat r2.length := ⟨by omega⟩; have hw := (hgd.get (show ta.toNat < r2.length by omega)).1; rLdI rfl (evg rfl hb) (by omega))) ?_
    refine stg rfl rfl rfl rfl rfl (fun hb => by (have hq := hb; try simp only [zbA] at hq); exact rEql rfl (evg rfl hb) rfl) ?_
    refine st rfl rfl rfl rfl (rAndB rfl rfl rfl rfl) ?_
    refine tr_cond_bool rfl (fun h9 => ?_) (fun h9 => ?_)
    · try simp only [zbA] at h9
      refine tr_skip ?_
      refine tr_block ?_
      refine tr_region fun _ _ _ => ?_
      refine st rfl rfl rfl rfl (rLd0 rfl rfl) ?_
      refine st rfl rfl rfl rfl (rAdd rfl rfl rfl (by omega) (by omega)) ?_
      refine ef rfl rfl (eSt0 rfl rfl rfl rfl rfl rfl ?_) 
      refine ⟨ta + 1, ⟨rfl, rfl, rfl, rfl, rfl, rfl, rfl, rfl, rfl, trivial⟩, by first | exact cs _ _ | exact CSub.refl _, ?_⟩
      refine ⟨⟨⟨by omega, by omega⟩, fun i h1 h2 => ?_⟩, by omega⟩
      by_cases he : (i : Int) = ta
      · have : i = ta.toNat := by omega
        rw [this]; exact h9.2
      · exact htz i h1 (by omega)
    · try simp only [zbA] at h9
      refine tr_exit ?_
      refine tr_seq ?_
      refine tr_seq ?_
      refine tr_region fun _ _ _ => ?_
      refine st rfl rfl rfl rfl (rLd0 rfl rfl) ?_
      refine st rfl rfl rfl rfl (rLd0 rfl rfl) ?_
      refine st rfl rfl rfl rfl (rLen rfl rfl) ?_
      refine pu rfl rfl rfl rfl rfl ?_
      refine tr_cond_bool rfl (fun h11 => ?_) (fun h11 => ?_)
      · try simp only [zbA] at h11
        refine tr_exit ?_
        refine tr_region fun _ _ _ => ?_
        refine pu rfl rfl rfl rfl rfl ?_
        refine st rfl rfl rfl rfl (rAdd rfl rfl rfl (by omega) (by omega)) ?_
        refine pu rfl rfl rfl rfl rfl ?_
        refine ⟨c + 1, ps, AP, cP, r2, dd, ⟨rfl, rfl, rfl, rfl, rfl, rfl, rfl, trivial⟩, by first | exact cs _ _ | exact CSub.refl _, ?_⟩
        refine ⟨⟨⟨by omega, by omega⟩, ⟨hrl, hgd⟩, qs, hps, ?_⟩, by omega⟩
        rw [show (c + 1).toNat = c.toNat + 1 by omega]
        refine hE.skip fun i h1 h2 => ?_
        rw [vsR_length] at h2
        rw [vsR_at, htz i (by omega) (by omega), el_zero]
      · try simp only [zbA] at h11
        refine tr_skip ?_
        refine tr_join (fun (q : (List RowM) × Int) => match q with | (r3, d2) => [(2, .int .i64 w), (4, .pointer (some p0)), (5, .pointer (some p0a)), (10, .int .i64 d2), (11, .func (.func 234) #[] [.pointer (some p0a), .pointer (some p0b)].toArray), (12, .slice AP ps.length cP), (13, .int .i64 c), (14, .pointer (some p7)), (15, .pointer (some p8))]) (fun (q : (List RowM) × Int) => match q with | (r3, d2) => [blk p8 3 [.int .i64 ta], blk p7 3 [.int .i64 k], ow AP 3 cP (ints ps), ow A 22 cp (hdrs r3), rowsCh 3 r3, blk p0b 25 [.slice none 0 0], blk p0a 25 [.slice A n cp], blk p0 58 [.pointer (some g.p)], gfR g]) (fun (q : (List RowM) × Int) => match q with | (r3, d2) => (r3.length = rs.length ∧ Gd (pw p m) w.toNat r3) ∧ Vc.Eli (Vc.SpL (vsR rs : List (Vc (El p m mod)))) w.toNat (vsR r3) c.toNat qs ∧ (r3.getD k.toNat rowD).xs.getD c.toNat 0 ≠ 0) ?_ ?_
        · refine tr_seq ?_
          have hne : (r2.getD ta.toNat rowD).xs.getD c.toNat 0 ≠ 0 := h9.resolve_left (fun h => h (by omega))
          have hkq : k.toNat = qs.length := by omega
          refine tr_region fun _ _ _ => ?_
          refine st rfl rfl rfl rfl (rLd0 rfl rfl) ?_
          refine st rfl rfl rfl rfl (rLd0 rfl rfl) ?_
          refine pu rfl rfl rfl rfl rfl ?_
          refine tr_cond_bool rfl (fun h12 => ?_) (fun h12 => ?_)
          · try simp only [zbA] at h12
            refine tr_seq ?_
            refine tr_region fun _ _ _ => ?_
            refine pu rfl rfl rfl rfl rfl ?_
            refine st rfl rfl rfl rfl (rFun rfl rfl rfl) ?_
            refine ef rfl rfl (eCallF2 rfl rfl rfl rfl (elim_eachV A n cp r2 (by omega) 235 [.pointer (some p8), .pointer (some p7)] p0a p0b [ro (some p8) [.int .i64 ta], ro (some p7) [.int .i64 k]] ⟨id, id, trivial⟩ _ (elim_swap A n cp r2 (by omega) p8 p7 ta k (by omega) (by omega)) (fun _ _ _ h => by obtain ⟨_, rfl, rfl⟩ := h; exact ⟨trivial, trivial, trivial⟩)) ⟨rfl, trivial⟩ ?_) 
            rintro _ _ _ ⟨rfl, _, _, rfl, rfl⟩
            refine tr_region fun _ _ _ => ?_
            refine st rfl rfl rfl rfl (rLd0 rfl rfl) ?_
            refine pu rfl rfl rfl rfl rfl ?_
            refine ef rfl rfl (eCallV rfl rfl rfl (gf_NegE g hg _) ⟨rfl, rfl, trivial⟩ ?_) 
            refine pu rfl rfl rfl rfl rfl ?_
            refine ⟨((r2.set k.toNat (r2.getD ta.toNat rowD)).set ta.toNat (r2.getD k.toNat rowD), (-(el dd : El p m mod)).1), ⟨rfl, rfl, rfl, rfl, rfl, rfl, rfl, rfl, rfl, trivial⟩, by first | exact cs _ _ | exact CSub.refl _, ?_⟩
            refine ⟨⟨by simpa using hrl, hgd.perm (swap_perm rowD r2 (by omega) (by omega))⟩, ?_, ?_⟩
            · have := hE.swap (a := ta.toNat) (by omega) (by rw [vsR_length]; omega)
              rw [← hkq, vsR_get, vsR_get] at this
              rw [vsR_set, vsR_set]; exact this
            · rw [row_set, if_neg (by omega), row_set, if_pos ⟨rfl, by omega⟩]; exact hne
          · try simp only [zbA] at h12
            refine tr_skip ?_
            refine ⟨(r2, dd), ⟨rfl, rfl, rfl, rfl, rfl, rfl, rfl, rfl, rfl, trivial⟩, by first | exact cs _ _ | exact CSub.refl _, ?_⟩
            exact ⟨⟨hrl, hgd⟩, hE, by rw [show k = ta by omega]; exact hne⟩
        · rintro ⟨r3, d2⟩ hI
          obtain ⟨⟨hrl3, hgd3⟩, hE3, hne3⟩ := hI
          have hkq : k.toNat = qs.length := by omega
          refine tr_seq ?_
          haveI : InB k.toNat r3.length := ⟨by omega⟩
          have hw3 := hgd3.get (show k.toNat < r3.length by omega)
          have hen := hw3.2.get (by omega) c.toNat
          have hnz3 : (el ((r3.getD k.toNat rowD).xs.getD c.toNat 0) : El p m mod) ≠ 0 := fun e => hne3 ((el_eq_zero hen).1 e)
          have hw31 := hw3.1
          refine tr_draw [0, 1, 2, 3, 4, 5, 6, 7, 8, 9, 10] [] mixed (by kernel_rfl) fun _ _ _ => ?_
          refine st rfl rfl rfl rfl (rLd0 rfl rfl) ?_
          refine pu rfl rfl rfl rfl rfl ?_
          refine st rfl rfl rfl rfl (rLd0 rfl rfl) ?_
          refine st rfl rfl rfl rfl (rLd0 rfl rfl) ?_
          refine st rfl rfl rfl rfl (rIdxR rfl rfl rfl (by omega) (by omega) (by omega)) ?_
          refine st rfl rfl rfl rfl (rLdR rfl rfl (by omega)) ?_
          refine pu rfl rfl rfl rfl rfl ?_
          refine st rfl rfl rfl rfl (rIdxI rfl rfl rfl (by omega) (by omega) (by omega)) ?_
          refine st rfl rfl rfl rfl (rLdI rfl rfl (by omega)) ?_
          refine ef rfl rfl (eCallV rfl rfl rfl (gf_MulE g hg _ _) ⟨rfl, rfl, rfl, trivial⟩ ?_) 
          refine pu rfl rfl rfl rfl rfl ?_
          generalize (el d2 * el ((r3.getD k.toNat rowD).xs.getD c.toNat 0) : El p m mod).1 = d3
          refine tr_join (fun (q : (List RowM)) => match q with | r4 => [(2, .int .i64 w), (4, .pointer (some p0)), (5, .pointer (some p0a)), (10, .int .i64 d3), (11, .func (.func 234) #[] [.pointer (some p0a), .pointer (some p0b)].toArray), (12, .slice AP ps.length cP), (13, .int .i64 c), (14, .pointer (some p7))]) (fun (q : (List RowM)) => match q with | r4 => [blk p7 3 [.int .i64 k], ow AP 3 cP (ints ps), ow A 22 cp (hdrs r4), rowsCh 3 r4, blk p0b 25 [.slice none 0 0], blk p0a 25 [.slice A n cp], blk p0 58 [.pointer (some g.p)], gfR g]) (fun (q : (List RowM)) => match q with | r4 => (r4.length = rs.length ∧ Gd (pw p m) w.toNat r4) ∧ Vc.Eli (Vc.SpL (vsR rs : List (Vc (El p m mod)))) w.toNat (vsR r4) c.toNat qs ∧ (r4.getD k.toNat rowD).xs.getD c.toNat 0 = 1) ?_ ?_
          · refine tr_mid (fun (q : Addr) => match q with | pi => [(2, .int .i64 w), (4, .pointer (some p0)), (5, .pointer (some p0a)), (10, .int .i64 d3), (11, .func (.func 234) #[] [.pointer (some p0a), .pointer (some p0b)].toArray), (12, .slice AP ps.length cP), (13, .int .i64 c), (14, .pointer (some p7)), (15, .pointer (some p8)), (16, .pointer (some pi)), (17, .int .i64 0)]) (fun (q : Addr) => match q with | pi => [blk pi 3 [.int .i64 (Fd.inv (el ((r3.getD k.toNat rowD).xs.getD c.toNat 0) : El p m mod)).1], blk p8 3 [.int .i64 ta], blk p7 3 [.int .i64 k], ow AP 3 cP (ints ps), ow A 22 cp (hdrs r3), rowsCh 3 r3, blk p0b 25 [.slice none 0 0], blk p0a 25 [.slice A n cp], blk p0 58 [.pointer (some g.p)], gfR g]) ?_ ?_
            · refine tr_planT [] (.one 0 0 (.one 0 1 (.one 0 2 (.one 0 3 (.one 0 4 (.one 0 5 (.one 0 6 (.one 0 7 (.two 8 (.one 0 9 (.one 0 10 (.one 2 11 (.one 0 12 (.one 1 13 (.one 0 14 .nil)))))) 12 (.one 0 8 (.one 0 9 (.one 0 10 (.one 2 11 (.one 1 13 (.one 0 14 .nil))))))))))))))) mixed (by kernel_rfl) fun _ _ _ => ?_
              refine st rfl rfl rfl rfl (rLd0 rfl rfl) ?_
              refine st rfl rfl rfl rfl (rLd0 rfl rfl) ?_
              refine st rfl rfl rfl rfl (rLd0 rfl rfl) ?_
              refine st rfl rfl rfl rfl (rIdxR rfl rfl rfl (by omega) (by omega) (by omega)) ?_
              refine st rfl rfl rfl rfl (rLdR rfl rfl (by omega)) ?_
              refine pu rfl rfl rfl rfl rfl ?_
              refine st rfl rfl rfl rfl (rIdxI rfl rfl rfl (by omega) (by omega) (by omega)) ?_
              refine st rfl rfl rfl rfl (rLdI rfl rfl (by omega)) ?_
              refine ⟨?_, ?_⟩
              · refine ef rfl rfl (eCallV rfl rfl rfl (gf_InvE g hg _ hnz3) ⟨rfl, rfl, trivial⟩ ?_)
                iterate 2 refine pu rfl rfl rfl rfl rfl ?_
                refine stF rfl rfl rfl rfl (cs _ _) (rExt rfl rfl rfl) ?_
                refine ef rfl rfl (eAlloc rfl rfl rfl (fun p16a => ?_)) 
                refine ef rfl rfl (eSt0 rfl rfl rfl rfl rfl rfl ?_) 
                refine ⟨cs _ _, ?_⟩
                refine pu rfl rfl rfl rfl rfl ?_
                exact ⟨rfl, (p16a), ⟨rfl, rfl, rfl, rfl, rfl, rfl, rfl, rfl, rfl, rfl, rfl, trivial⟩, by first | exact cs _ _ | exact CSub.refl _⟩
              · refine ef rfl rfl (eAlloc rfl rfl rfl (fun p16a => ?_))
                refine ef rfl rfl (eCallV rfl rfl rfl (gf_InvE g hg _ hnz3) ⟨rfl, rfl, trivial⟩ ?_) 
                iterate 2 refine pu rfl rfl rfl rfl rfl ?_
                refine stF rfl rfl rfl rfl (cs _ _) (rExt rfl rfl rfl) ?_
                refine ef rfl rfl (eSt0 rfl rfl rfl rfl rfl rfl ?_) 
                refine ⟨cs _ _, ?_⟩
                refine pu rfl rfl rfl rfl rfl ?_
                exact ⟨rfl, (p16a), ⟨rfl, rfl, rfl, rfl, rfl, rfl, rfl, rfl, rfl, rfl, rfl, trivial⟩, by first | exact cs _ _ | exact CSub.refl _⟩
            · rintro pi
              refine tr_seq ?_
              refine tr_region fun _ _ _ => ?_
              iterate 3 refine pu rfl rfl rfl rfl rfl ?_
              refine stg rfl rfl rfl rfl rfl (fun hb => by (have hq := hb; try simp only [zbA] at hq); exact rLd0 rfl rfl) ?_
              refine stg rfl rfl rfl rfl rfl (fun hb => by (have hq := hb; try simp only [zbA] at hq); exact rNeq rfl (evg rfl hb) rfl) ?_
              refine st rfl rfl rfl rfl (rAndB rfl rfl rfl rfl) ?_
              refine tr_cond_bool rfl (fun h17 => ?_) (fun h17 => ?_)
              · try simp only [zbA] at h17
                refine tr_region fun _ _ _ => ?_
                refine pu rfl rfl rfl rfl rfl ?_
                refine st rfl rfl rfl rfl (rFun rfl rfl rfl) ?_
                refine ef rfl rfl (eCallF2 rfl rfl rfl rfl (elim_eachV A n cp r3 (by omega) 236 [.pointer (some p0), .pointer (some pi), .pointer (some p7)] p0a p0b [ro (some p0) [.pointer (some g.p)], ro (some pi) [.int .i64 (Fd.inv (el ((r3.getD k.toNat rowD).xs.getD c.toNat 0) : El p m mod)).1], ro (some p7) [.int .i64 k], gfR g] ⟨id, id, id, id, trivial⟩ _ (elim_scale g hg A n cp r3 (by omega) p0 pi p7 _ k (by omega) (by omega)) (fun _ _ _ h => by obtain ⟨_, _, rfl, rfl⟩ := h; exact ⟨trivial, trivial, trivial⟩)) ⟨rfl, trivial⟩ ?_) 
                rintro _ _ _ ⟨rfl, _, B18, _, rfl, rfl⟩
                refine ⟨(r3.set k.toNat (⟨B18, (r3.getD k.toNat rowD).xs.length, sclR (el ((Fd.inv (el ((r3.getD k.toNat rowD).xs.getD c.toNat 0) : El p m mod)).1) : El p m mod) (r3.getD k.toNat rowD).xs⟩ : RowM)), ⟨rfl, rfl, rfl, rfl, rfl, rfl, rfl, rfl, trivial⟩, by first | exact cs _ _ | exact CSub.refl _, ?_⟩
                refine ⟨⟨by simpa using hrl3, hgd3.set _ (by simpa using hw3.1) (sclR_in _ _)⟩, ?_, ?_⟩
                · have := hE3.scale (by rw [vsR_length]; omega) (Fd.inv_ne hnz3)
                  rw [← hkq, vsR_get] at this
                  rw [vsR_set, rw_sclR, el_of]; exact this
                · rw [row_set, if_pos ⟨rfl, by omega⟩]
                  refine (val_of_el (mod := mod) (sclR_in _ _) c.toNat trivial ?_)
                  have := congrFun (rw_sclR (el ((Fd.inv (el ((r3.getD k.toNat rowD).xs.getD c.toNat 0) : El p m mod)).1) : El p m mod) (r3.getD k.toNat rowD).xs) c.toNat
                  rw [rw_at, Vc.sc_at, rw_at, el_of] at this
                  rw [el_of, this]; exact Fd.inv_mul _ hnz3
              · try simp only [zbA] at h17
                refine tr_skip ?_
                refine ⟨(r3), ⟨rfl, rfl, rfl, rfl, rfl, rfl, rfl, rfl, trivial⟩, by first | exact cs _ _ | exact CSub.refl _, ?_⟩
                refine ⟨⟨hrl3, hgd3⟩, hE3, ?_⟩
                have hone : ((Fd.inv (el ((r3.getD k.toNat rowD).xs.getD c.toNat 0) : El p m mod)).1) = 1 := by simpa using h17
                refine val_of_el (mod := mod) hw3.2 c.toNat trivial ?_
                have h1 : (Fd.inv (el ((r3.getD k.toNat rowD).xs.getD c.toNat 0) : El p m mod)) = 1 := El.ext hone
                have h2 := Fd.mul_inv _ hnz3
                rw [h1, Rg.mul_one] at h2
                exact h2
          · rintro r4 hI
            obtain ⟨⟨hrl4, hgd4⟩, hE4, hone4⟩ := hI
            refine tr_seq ?_
            refine tr_seq ?_
            refine tr_region fun _ _ _ => ?_
            refine st rfl rfl rfl rfl (rLd0 rfl rfl) ?_
            refine st rfl rfl rfl rfl (rLen rfl rfl) ?_
            refine pu rfl rfl rfl rfl rfl ?_
            refine tr_block ?_
            refine tr_loop2 (fun (i : Int) (r5 : List RowM) => [(2, .int .i64 w), (4, .pointer (some p0)), (5, .pointer (some p0a)), (10, .int .i64 d3), (11, .func (.func 234) #[] [.pointer (some p0a), .pointer (some p0b)].toArray), (12, .slice AP ps.length cP), (13, .int .i64 c), (14, .pointer (some p7)), (97, .int .i64 n), (98, .int .i64 i)]) (fun (i : Int) (r5 : List RowM) => [blk p7 3 [.int .i64 k], ow AP 3 cP (ints ps), ow A 22 cp (hdrs r5), rowsCh 3 r5, blk p0b 25 [.slice none 0 0], blk p0a 25 [.slice A n cp], blk p0 58 [.pointer (some g.p)], gfR g]) (fun (i : Int) (r5 : List RowM) => (0 ≤ i ∧ i ≤ n) ∧ (r5.length = rs.length ∧ Gd (pw p m) w.toNat r5) ∧ Vc.Eli (Vc.SpL (vsR rs : List (Vc (El p m mod)))) w.toNat (vsR r5) c.toNat qs ∧ (r5.getD k.toNat rowD).xs.getD c.toNat 0 = 1 ∧ ∀ t : Nat, (t : Int) < i → t ≠ k.toNat → (r5.getD t rowD).xs.getD c.toNat 0 = 0) (fun (i : Int) (r5 : List RowM) => (n - i).toNat) (0) (r4) ⟨rfl, rfl, rfl, rfl, rfl, rfl, rfl, rfl, rfl, rfl, trivial⟩ (by first | exact cs _ _ | exact CSub.refl _) (⟨⟨by omega, by omega⟩, ⟨hrl4, hgd4⟩, hE4, hone4, fun t h1 h2 => by omega⟩) (fun i r5 hI => ?_)
            obtain ⟨⟨hi0, hi1⟩, ⟨hrl5, hgd5⟩, hE5, hone5, hz5⟩ := hI
            refine tr_seq ?_
            refine tr_region fun _ _ _ => ?_
            refine pu rfl rfl rfl rfl rfl ?_
            refine tr_seq ?_
            refine tr_cond_bool rfl (fun h20 => ?_) (fun h20 => ?_)
            · try simp only [zbA] at h20
              refine tr_skip ?_
              refine tr_seq ?_
              refine tr_block ?_
              refine tr_seq ?_
              refine tr_region fun _ _ _ => ?_
              refine pu rfl rfl rfl rfl rfl ?_
              refine ef rfl rfl (eAlloc rfl rfl rfl (fun p21 => ?_)) 
              refine ef rfl rfl (eSt0 rfl rfl rfl rfl rfl rfl ?_) 
              refine tr_seq ?_
              haveI : InB i.toNat r5.length := ⟨by omega⟩
              have hwi := hgd5.get (show i.toNat < r5.length by omega)
              have hwk := hgd5.get (show k.toNat < r5.length by omega)
              have hwi1 := hwi.1
              have hwk1 := hwk.1
              refine tr_region fun _ _ _ => ?_
              refine st rfl rfl rfl rfl (rLd0 rfl rfl) ?_
              refine st rfl rfl rfl rfl (rLd0 rfl rfl) ?_
              refine st rfl rfl rfl rfl (rIdxR rfl rfl rfl (by omega) (by omega) (by omega)) ?_
              refine st rfl rfl rfl rfl (rLdR rfl rfl (by omega)) ?_
              refine pu rfl rfl rfl rfl rfl ?_
              refine st rfl rfl rfl rfl (rIdxI rfl rfl rfl (by omega) (by omega) (by omega)) ?_
              refine st rfl rfl rfl rfl (rLdI rfl rfl (by omega)) ?_
              refine ef rfl rfl (eAlloc rfl rfl rfl (fun p22 => ?_)) 
              refine ef rfl rfl (eSt0 rfl rfl rfl rfl rfl rfl ?_) 
              refine tr_seq ?_
              refine tr_region fun _ _ _ => ?_
              refine st rfl rfl rfl rfl (rLd0 rfl rfl) ?_
              refine st rfl rfl rfl rfl (rLd0 rfl rfl) ?_
              iterate 2 refine pu rfl rfl rfl rfl rfl ?_
              refine stg rfl rfl rfl rfl rfl (fun hb => by (have hq := hb; try simp only [zbA] at hq); exact rLd0 rfl rfl) ?_
              refine stg rfl rfl rfl rfl rfl (fun hb => by (have hq := hb; try simp only [zbA] at hq); exact rNeq rfl (evg rfl hb) rfl) ?_
              refine st rfl rfl rfl rfl (rAndB rfl rfl rfl rfl) ?_
              refine tr_cond_bool rfl (fun h23 => ?_) (fun h23 => ?_)
              · try simp only [zbA] at h23
                refine tr_region fun _ _ _ => ?_
                refine pu rfl rfl rfl rfl rfl ?_
                refine st rfl rfl rfl rfl (rFun rfl rfl rfl) ?_
                refine ef rfl rfl (eCallF2 rfl rfl rfl rfl (elim_eachV A n cp r5 (by omega) 237 [.pointer (some p0), .pointer (some p21), .pointer (some p22), .pointer (some p7)] p0a p0b [ro (some p0) [.pointer (some g.p)], ro (some p21) [.int .i64 i], ro (some p22) [.int .i64 ((r5.getD i.toNat rowD).xs.getD c.toNat 0)], ro (some p7) [.int .i64 k], gfR g] ⟨id, id, id, id, id, trivial⟩ _ (elim_add g hg A n cp r5 (by omega) p0 p21 p22 p7 _ i k (by omega) (by omega) (by omega) (by omega) (by omega) hwi.2) (fun _ _ _ h => by obtain ⟨_, rfl, rfl⟩ := h; exact ⟨trivial, trivial, trivial⟩)) ⟨rfl, trivial⟩ ?_) 
                rintro _ _ _ ⟨rfl, _, _, rfl, rfl⟩
                refine tr_region fun _ _ _ => ?_
                refine st rfl rfl rfl rfl (rAdd rfl rfl rfl (by omega) (by omega)) ?_
                refine pu rfl rfl rfl rfl rfl ?_
                refine ⟨i + 1, r5.set i.toNat (⟨(r5.getD i.toNat rowD).A, (r5.getD i.toNat rowD).cap, addR (-(el ((r5.getD i.toNat rowD).xs.getD c.toNat 0) : El p m mod)) (r5.getD i.toNat rowD).xs (r5.getD k.toNat rowD).xs⟩ : RowM), ⟨rfl, rfl, rfl, rfl, rfl, rfl, rfl, rfl, rfl, rfl, trivial⟩, by first | exact cs _ _ | exact CSub.refl _, ?_⟩
                refine ⟨⟨⟨by omega, by omega⟩, ⟨by simpa using hrl5, hgd5.set _ (by simpa using hwi.1) (addR_in _ _ _)⟩, ?_, ?_, fun t h1 h2 => ?_⟩, by omega⟩
                · have := hE5.plus (by rw [vsR_length]; omega) (i := i.toNat) (by rw [vsR_length]; omega) (by omega) (-(el ((r5.getD i.toNat rowD).xs.getD c.toNat 0) : El p m mod))
                  rw [← hkq, vsR_get, vsR_get] at this
                  rw [vsR_set, rw_addR _ _ _ (by omega)]; exact this
                · rw [row_set, if_neg (by omega)]; exact hone5
                · rw [row_set]
                  split
                  · rename_i he
                    obtain ⟨rfl, he⟩ := he
                    show (addR _ _ _).getD c.toNat 0 = 0
                    rw [addR_get _ _ _ (by omega), hone5, el_one]
                    exact congrArg Subtype.val (show (el ((r5.getD i.toNat rowD).xs.getD c.toNat 0) + -el ((r5.getD i.toNat rowD).xs.getD c.toNat 0) * 1 : El p m mod) = 0 by grind)
                  · exact hz5 t (by omega) h2
              · try simp only [zbA] at h23
                refine tr_skip ?_
                refine tr_region fun _ _ _ => ?_
                refine st rfl rfl rfl rfl (rAdd rfl rfl rfl (by omega) (by omega)) ?_
                refine pu rfl rfl rfl rfl rfl ?_
                refine ⟨i + 1, r5, ⟨rfl, rfl, rfl, rfl, rfl, rfl, rfl, rfl, rfl, rfl, trivial⟩, by first | exact cs _ _ | exact CSub.refl _, ?_⟩
                refine ⟨⟨⟨by omega, by omega⟩, ⟨hrl5, hgd5⟩, hE5, hone5, fun t h1 h2 => ?_⟩, by omega⟩
                by_cases he : t = i.toNat
                · subst he
                  have h3 : i ≠ k := by omega
                  exact h23.resolve_left h3
                · exact hz5 t (by omega) h2
            · try simp only [zbA] at h20
              refine tr_exit ?_
              refine tr_region fun _ _ _ => ?_
              iterate 2 refine pu rfl rfl rfl rfl rfl ?_
              refine ef rfl rfl (eLit1I rfl rfl rfl rfl (fun A26 => ?_)) 
              refine ef rfl rfl (eAppI rfl rfl rfl rfl rfl (by first | rfl | simp) (by first | rfl | simp) (by first | omega | (simp; omega)) (fun A26a c26a => ?_)) 
              refine pu rfl rfl rfl rfl rfl ?_
              refine tr_region fun _ _ _ => ?_
              refine pu rfl rfl rfl rfl rfl ?_
              refine st rfl rfl rfl rfl (rAdd rfl rfl rfl (by omega) (by omega)) ?_
              refine pu rfl rfl rfl rfl rfl ?_
              refine ⟨c + 1, ps ++ [c], A26a, c26a, r5, d3, ⟨rfl, rfl, rfl, rfl, rfl, rfl, rfl, trivial⟩, by first | exact cs _ _ | exact CSub.refl _, ?_⟩
              refine ⟨⟨⟨by omega, by omega⟩, ⟨hrl5, hgd5⟩, qs ++ [c.toNat], ?_, ?_⟩, by omega⟩
              · rw [hps, List.map_append]; simp; omega
              · rw [show (c + 1).toNat = c.toNat + 1 by omega]
                refine hE5.push (by rw [vsR_length]; omega) ?_ (fun t h1 h2 => ?_)
                · rw [vsR_at, ← hkq, hone5, el_one]
                · rw [vsR_length] at h1
                  rw [vsR_at, hz5 t (by omega) (by omega), el_zero]
  · try simp only [zbA] at h5
    refine tr_exit ?_
    refine tr_seq ?_
    refine tr_region fun _ _ _ => ?_
    iterate 4 refine pu rfl rfl rfl rfl rfl ?_
    obtain ⟨hR1, hR2⟩ := hE.done (by rw [vsR_length]; omega) (by omega)
    exact tr_ret ⟨trivial, _, _, (.tmp rfl (.tmp rfl .nil)), ⟨_, _, _, rfl, r2, AP, cP, ps, qs, dd, rfl, rfl, rfl, rfl, hps, hrl, hgd, by omega, hR1, hR2⟩, cs _ _, trivial, trivial, trivial, trivial⟩
end Go.Proofs.YtgnmcoegdogfgaaGreat

set_option linter.unusedSimpArgs false
set_option linter.unusedVariables false
set_option maxRecDepth 100000
namespace Go.Proofs.YtgnmcoegdogfgaaGreat
open Go.RowKit
theorem slc_Clone_ent : Enters Tryz.prog 215 := enters_of Tryz.func215 (by kernel_rfl) (by kernel_rfl)
theorem slc_Clone (A : Option Addr) (c : Nat) (l : List Int) (h9 : l.length ≤ 1000000) :
    Pure Tryz.prog 215 #[.slice A l.length c] [ro A (ints l)] (one (fun v ch => ∃ B cap, v = .slice B l.length cap ∧ ch = ow B 3 cap (ints l))) := by
  refine pure_of (args := [.slice A l.length c]) 8 Tryz.func215 rfl rfl rfl slc_Clone_ent ⟨id, trivial⟩ (fun w0 => ?_)
  refine tr_seq ?_
  refine tr_region fun _ _ _ => ?_
  refine pu rfl rfl rfl rfl rfl ?_
  refine tr_seq ?_
  refine tr_seq ?_
  refine tr_nn (A := A) (l := l) fun hnn => ?_
  refine tr_region fun _ _ _ => ?_
  refine pu rfl rfl rfl rfl rfl ?_
  refine st rfl rfl rfl rfl (rNilS rfl rfl rfl) ?_
  refine tr_cond_bool rfl (fun h1 => ?_) (fun h1 => ?_)
  · try simp only [zbA] at h1
    refine tr_seq ?_
    refine tr_region fun _ _ _ => ?_
    refine pu rfl rfl rfl rfl rfl ?_
    have hl0 := hnn (Option.isNone_iff_eq_none.1 h1)
    subst hl0
    refine tr_nilI 3 ?_
    exact tr_ret ⟨trivial, _, _, rfl, ⟨_, rfl, none, 0, rfl, rfl⟩, cs _ _, trivial, trivial⟩
  · try simp only [zbA] at h1
    refine tr_skip ?_
    refine tr_seq ?_
    refine tr_region fun _ _ _ => ?_
    refine ef rfl rfl (eLit0I rfl rfl rfl  (fun A3 => ?_)) 
    refine pu rfl rfl rfl rfl rfl ?_
    refine ef rfl rfl (eAppI rfl rfl rfl rfl rfl (by first | rfl | simp) (by first | rfl | simp) (by first | omega | (simp; omega)) (fun A3a c3a => ?_)) 
    refine pu rfl rfl rfl rfl rfl ?_
    simp only [List.nil_append]
    exact tr_ret ⟨trivial, _, _, rfl, ⟨_, rfl, A3a, c3a, rfl, rfl⟩, cs _ _, trivial, trivial⟩
theorem mat_clone_ent : Enters Tryz.prog 213 := enters_of Tryz.func213 (by kernel_rfl) (by kernel_rfl)
theorem mat_clone (A : Option Addr) (n c : Nat) (rs : List RowM) (hn : n = rs.length) (h9 : rs.length ≤ 1000000) (h8 : ∀ r ∈ rs, r.xs.length ≤ 1000000) :
    Pure Tryz.prog 213 #[.slice A n c] [ro A (hdrs rs), rowsR rs] (two (fun v ca cb => ∃ B cap qs, v = .slice B qs.length cap ∧ ca = ow B 22 cap (hdrs qs) ∧ cb = rowsCh 3 qs ∧ qs.map (·.xs) = rs.map (·.xs) ∧ qs.length ≤ cap)) := by
  refine pure_of (args := [.slice A n c]) 23 Tryz.func213 rfl rfl rfl mat_clone_ent ⟨id, id, trivial⟩ (fun w0 => ?_)
  refine tr_seq ?_
  refine tr_region fun _ _ _ => ?_
  refine pu rfl rfl rfl rfl rfl ?_
  refine tr_seq ?_
  refine tr_region fun _ _ _ => ?_
  refine pu rfl rfl rfl rfl rfl ?_
  refine st rfl rfl rfl rfl (rLen rfl rfl) ?_
  refine ef rfl rfl (eMake rfl rfl rfl rfl rfl (by omega) (by omega) (by omega) (fun A1 => ?_)) 
  refine pu rfl rfl rfl rfl rfl ?_
  rw [Int.toNat_natCast, hdrs_rep]
  refine tr_seq ?_
  refine tr_seq ?_
  refine tr_region fun _ _ _ => ?_
  refine pu rfl rfl rfl rfl rfl ?_
  refine st rfl rfl rfl rfl (rLen rfl rfl) ?_
  refine pu rfl rfl rfl rfl rfl ?_
  refine tr_block ?_
  refine tr_loop2 (fun (k : Int) (qs : List RowM) => [(3, .slice A1 n n), (9, .slice A n c), (10, .int .i64 n), (11, .int .i64 k)]) (fun (k : Int) (qs : List RowM) => [ow A1 22 n (hdrs qs), rowsCh 3 qs, ro A (hdrs rs), rowsR rs]) (fun (k : Int) (qs : List RowM) => (0 ≤ k ∧ k ≤ n) ∧ qs.length = n ∧ ∀ j : Nat, (j : Int) < k → (qs.getD j rowD).xs = (rs.getD j rowD).xs) (fun (k : Int) (qs : List RowM) => (n - k).toNat) (0) (List.replicate n rowD) ⟨rfl, rfl, rfl, rfl, trivial⟩ (by exact (rows_rep 3 _ n).trans (cs _ _)) (⟨⟨by omega, by omega⟩, by simp, fun j hj => by omega⟩) (fun k qs hI => ?_)
  obtain ⟨⟨hk0, hk1⟩, hql, hq⟩ := hI
  refine tr_seq ?_
  refine tr_region fun _ _ _ => ?_
  refine pu rfl rfl rfl rfl rfl ?_
  refine tr_seq ?_
  refine tr_cond_bool rfl (fun h3 => ?_) (fun h3 => ?_)
  · try simp only [zbA] at h3
    refine tr_skip ?_
    refine tr_seq ?_
    refine tr_block ?_
    refine tr_seq ?_
    haveI : InB k.toNat rs.length := ⟨by omega⟩
    refine tr_region fun _ _ _ => ?_
    refine pu rfl rfl rfl rfl rfl ?_
    refine st rfl rfl rfl rfl (rIdxR rfl rfl rfl (by omega) (by omega) (by omega)) ?_
    refine st rfl rfl rfl rfl (rLdR rfl rfl (by omega)) ?_
    iterate 2 refine pu rfl rfl rfl rfl rfl ?_
    refine tr_region fun _ _ _ => ?_
    iterate 3 refine pu rfl rfl rfl rfl rfl ?_
    refine ef rfl rfl (eCall1 rfl rfl rfl (slc_Clone _ _ (rs.getD k.toNat rowD).xs (h8 _ (getD_mem (by omega) _))) ⟨rfl, trivial⟩ ?_) 
    rintro _ _ ⟨B5, c5, rfl, rfl⟩
    refine st rfl rfl rfl rfl (rIdxR rfl rfl rfl (by omega) (by omega) (by omega)) ?_
    refine ef rfl rfl (eSt rfl rfl rfl rfl (by first | omega | (simp; omega)) rfl rfl ?_) 
    refine tr_region fun _ _ _ => ?_
    refine st rfl rfl rfl rfl (rAdd rfl rfl rfl (by omega) (by omega)) ?_
    refine pu rfl rfl rfl rfl rfl ?_
    refine ⟨k + 1, qs.set k.toNat ⟨B5, c5, (rs.getD k.toNat rowD).xs⟩, ⟨rfl, rfl, rfl, rfl, trivial⟩, by rw [hdrs_set]; exact (cs _ [rowsCh 3 qs, ow B5 3 c5 (ints (rs.getD k.toNat rowD).xs), ow A1 22 n ((hdrs qs).set k.toNat (.slice B5 (rs.getD k.toNat rowD).xs.length c5)), ro A (hdrs rs), rowsR rs]).trans ((rows_put (r := ⟨B5, c5, (rs.getD k.toNat rowD).xs⟩) (show k.toNat < qs.length by omega) _).trans (CSub.perm (List.Perm.swap ..))), ?_⟩
    refine ⟨⟨⟨by omega, by omega⟩, by simpa using hql, fun j hj => ?_⟩, by omega⟩
    rw [row_set]
    by_cases he : k.toNat = j
    · subst he; rw [if_pos ⟨rfl, by omega⟩]
    · rw [if_neg (fun e => he e.1)]; exact hq j (by omega)
  · try simp only [zbA] at h3
    refine tr_exit ?_
    refine tr_seq ?_
    refine tr_region fun _ _ _ => ?_
    iterate 2 refine pu rfl rfl rfl rfl rfl ?_
    have hm : qs.map (·.xs) = rs.map (·.xs) := by
      refine List.ext_getElem (by simp; omega) fun j h1 h2 => ?_
      have h3 := hq j (by simp at h1; omega)
      rw [List.getD_eq_getElem?_getD, List.getElem?_eq_getElem (by simpa using h1), List.getD_eq_getElem?_getD, List.getElem?_eq_getElem (by simpa using h2)] at h3
      simpa using h3
    exact tr_ret ⟨trivial, _, _, rfl, ⟨_, _, rfl, A1, n, qs, by rw [hql], rfl, rfl, hm, by omega⟩, cs _ _, trivial, trivial, trivial⟩
theorem vsR_of {p m : Int} {mod : List Int} [hF : IsF p m mod] {rs qs : List RowM} (h : qs.map (·.xs) = rs.map (·.xs)) : (vsR qs : List (Vc (El p m mod))) = vsR rs := by
  have e : ∀ l : List RowM, (vsR l : List (Vc (El p m mod))) = (l.map (·.xs)).map rw' := fun l => by rw [List.map_map]; rfl
  rw [e, e, h]
theorem Gd.of {q : Int} {w : Nat} {rs qs : List RowM} (h : qs.map (·.xs) = rs.map (·.xs)) (hg : Gd q w rs) : Gd q w qs := fun r hr => by
  have h1 : r.xs ∈ rs.map (·.xs) := by rw [← h]; exact List.mem_map.2 ⟨r, hr, rfl⟩
  obtain ⟨s, hs, he⟩ := List.mem_map.1 h1
  rw [← he]; exact hg s hs
theorem Gd.take {q : Int} {w : Nat} {rs : List RowM} (h : Gd q w rs) (k : Nat) : Gd q w (rs.take k) := fun r hr => h r (List.mem_of_mem_take hr)
theorem vsR_take {p m : Int} {mod : List Int} [hF : IsF p m mod] (rs : List RowM) (k : Nat) : (vsR rs : List (Vc (El p m mod))).take k = vsR (rs.take k) := by simp [vsR, List.map_take]
structure RrOf (p m : Int) (mod : List Int) [hF : IsF p m mod] (w : Nat) (rs r3 : List RowM) (ps : List Int) : Prop where
  good : Gd (pw p m) w r3
  len : ps.length = r3.length
  form : ∃ qs, ps = qs.map Int.ofNat ∧ Vc.Rr w (vsR r3 : List (Vc (El p m mod))) qs
  span : ∀ u, Vc.SpL (vsR r3 : List (Vc (El p m mod))) u ↔ Vc.SpL (vsR rs) u
theorem mat_canon_ent : Enters Tryz.prog 182 := enters_of Tryz.func182 (by kernel_rfl) (by kernel_rfl)
theorem mat_canon (g : GfM) {p m : Int} {mod : List Int} [hF : IsF p m mod] (hg : GOk g p m mod) (w : Int) (hw0 : 0 ≤ w) (hw9 : w ≤ 1000000) (A : Option Addr) (n c : Nat) (rs : List RowM) (hn : n = rs.length) (h9 : rs.length ≤ 1000000) (hgd : Gd (pw p m) w.toNat rs) :
    Pure Tryz.prog 182 #[.pointer (some g.p), .slice A n c, .int .i64 w] [gfR g, ro A (hdrs rs), rowsR rs] (three (fun v ca cb cc => ∃ B r3 Bp cp ps, v = .tuple #[.slice B r3.length r3.length, .slice Bp ps.length cp] ∧ ca = rx B (hdrs r3) ∧ cb = rowsCh 3 r3 ∧ cc = ow Bp 3 cp (ints ps) ∧ RrOf p m mod w.toNat rs r3 ps ∧ r3.length ≤ rs.length)) := by
  have h8 : ∀ r ∈ rs, r.xs.length ≤ 1000000 := fun r hr => by have := (hgd r hr).1; omega
  refine pure_of (args := [.pointer (some g.p), .slice A n c, .int .i64 w]) 27 Tryz.func182 rfl rfl rfl mat_canon_ent ⟨id, id, id, trivial⟩ (fun w0 => ?_)
  refine tr_seq ?_
  refine tr_region fun _ _ _ => ?_
  iterate 2 refine pu rfl rfl rfl rfl rfl ?_
  refine tr_seq ?_
  refine tr_region fun _ _ _ => ?_
  refine pu rfl rfl rfl rfl rfl ?_
  refine ef rfl rfl (eCall2 rfl rfl rfl (mat_clone A n c rs hn h9 h8) ⟨rfl, trivial⟩ ?_) 
  rintro _ _ _ ⟨B1, c1, qs1, rfl, rfl, rfl, hqs1, hcap1⟩
  refine pu rfl rfl rfl rfl rfl ?_
  have hlq : qs1.length = rs.length := by have := congrArg List.length hqs1; simpa using this
  refine tr_seq ?_
  refine tr_region fun _ _ _ => ?_
  iterate 3 refine pu rfl rfl rfl rfl rfl ?_
  refine ef rfl rfl (eCallM3 rfl rfl rfl (mat_eliminate g hg w hw0 hw9 B1 _ c1 qs1 rfl (by omega) (Gd.of hqs1 hgd)) ⟨rfl, rfl, rfl, rfl, trivial⟩ ?_) 
  rintro _ _ _ _ ⟨rs2, Bp, cbp, ps, qs, dd, rfl, rfl, rfl, rfl, hps, hrl2, hgd2, hql, hR1, hR2⟩
  iterate 5 refine pu rfl rfl rfl rfl rfl ?_
  refine tr_seq ?_
  have hpl : ps.length = qs.length := by rw [hps, List.length_map]
  refine tr_region fun _ _ _ => ?_
  iterate 2 refine pu rfl rfl rfl rfl rfl ?_
  refine st rfl rfl rfl rfl (rLen rfl rfl) ?_
  refine pu rfl rfl rfl rfl rfl ?_
  refine st rfl rfl rfl rfl (rLen rfl rfl) ?_
  refine st rfl rfl rfl rfl (rCut3 rfl rfl rfl rfl (by omega) (by omega)) ?_
  iterate 3 refine pu rfl rfl rfl rfl rfl ?_
  simp only [Int.toNat_natCast]
  have htl : (rs2.take ps.length).length = ps.length := by rw [List.length_take]; omega
  have hRr : RrOf p m mod w.toNat rs (rs2.take ps.length) ps := by
    rw [vsR_take, ← hpl] at hR1 hR2
    refine ⟨hgd2.take _, htl.symm, ⟨qs, hps, hR1⟩, fun u => ?_⟩
    rw [hR2, vsR_of hqs1]
  exact tr_ret ⟨trivial, _, _, rfl, ⟨_, _, _, rfl, B1, rs2.take ps.length, Bp, cbp, ps, by rw [htl], rfl, rfl, rfl, hRr, by omega⟩, (cs _ [ow B1 22 c1 (hdrs rs2), rowsCh 3 rs2, ow Bp 3 cbp (ints ps)]).trans ((ow_rx _).trans ((rx_take _ _).trans (CSub.cons _ (rows_take _ _)))), trivial, trivial, trivial, trivial⟩
end Go.Proofs.YtgnmcoegdogfgaaGreat

set_option linter.unusedSimpArgs false
set_option linter.unusedVariables false
set_option maxRecDepth 100000
namespace Go.Proofs.YtgnmcoegdogfgaaGreat
open Go.RowKit
noncomputable def entC (q : Int) (l : List Int) : Int := @ite _ (AllIn q l) (Classical.propDecidable _) 0 2
theorem entC_ok {q : Int} {l : List Int} (h : AllIn q l) : entC q l = 0 := by unfold entC; rw [if_pos h]
theorem entC_no {q : Int} {l : List Int} (h : ¬ AllIn q l) : entC q l = 2 := by unfold entC; rw [if_neg h]
theorem allIn_of_get {q : Int} {l : List Int} (h : ∀ j : Nat, j < l.length → 0 ≤ l.getD j 0 ∧ l.getD j 0 < q) : AllIn q l := fun z hz => by
  obtain ⟨j, hj, rfl⟩ := List.getElem_of_mem hz
  have := h j hj
  rw [List.getD_eq_getElem?_getD, List.getElem?_eq_getElem hj] at this
  exact this
theorem ref_Entries_ent : Enters Tryz.prog 155 := enters_of Tryz.func155 (by kernel_rfl) (by kernel_rfl)
theorem ref_Entries (p m : Int) (A : Option Addr) (c : Nat) (mod : List Int) (B : Option Addr) (n d : Nat) (l : List Int) (hn : n = l.length) (h9 : l.length ≤ 17592186044415) :
    Pure Tryz.prog 155 #[.agg #[.int .i64 p, .int .i64 m, .slice A mod.length c], .slice B n d] [ro A (ints mod), ro B (ints l)] (isV (.int .i64 (entC (ordI p m) l))) := by
  refine pure_of (args := [.agg #[.int .i64 p, .int .i64 m, .slice A mod.length c], .slice B n d]) 19 Tryz.func155 rfl rfl rfl ref_Entries_ent ⟨id, id, trivial⟩ (fun w0 => ?_)
  refine tr_seq ?_
  refine tr_region fun _ _ _ => ?_
  refine ef rfl rfl (eBox rfl rfl rfl rfl rfl (fun p0 => ?_)) 
  refine pu rfl rfl rfl rfl rfl ?_
  refine tr_seq ?_
  refine tr_seq ?_
  refine tr_region fun _ _ _ => ?_
  refine pu rfl rfl rfl rfl rfl ?_
  refine tr_block ?_
  refine tr_loop1 (fun (k : Int) => [(1, .slice B n d), (2, .pointer (some p0)), (5, .int .i64 k)]) (fun (k : Int) => [blk p0 24 [.int .i64 p, .int .i64 m, .slice A mod.length c], ro A (ints mod), ro B (ints l)]) (fun (k : Int) => (0 ≤ k ∧ k ≤ n) ∧ ∀ j : Nat, (j : Int) < k → 0 ≤ l.getD j 0 ∧ l.getD j 0 < ordI p m) (fun (k : Int) => (n - k).toNat) (0) ⟨rfl, rfl, rfl, trivial⟩ (by first | exact cs _ _ | exact CSub.refl _) (⟨⟨by omega, by omega⟩, fun j hj => by omega⟩) (fun k hI => ?_)
  obtain ⟨⟨hk0, hk1⟩, hall⟩ := hI
  refine tr_seq ?_
  refine tr_seq ?_
  refine tr_region fun _ _ _ => ?_
  iterate 2 refine pu rfl rfl rfl rfl rfl ?_
  refine st rfl rfl rfl rfl (rLen rfl rfl) ?_
  refine pu rfl rfl rfl rfl rfl ?_
  refine tr_cond_bool rfl (fun h2 => ?_) (fun h2 => ?_)
  · try simp only [zbA] at h2
    refine tr_skip ?_
    refine tr_seq ?_
    refine tr_block ?_
    refine tr_seq ?_
    refine tr_draw [0, 1, 2, 3, 4, 5, 6] [] mixed (by kernel_rfl) fun _ _ _ => ?_
    refine st rfl rfl rfl rfl (rLdS rfl rfl rfl) ?_
    iterate 2 refine pu rfl rfl rfl rfl rfl ?_
    refine st rfl rfl rfl rfl (rIdxI rfl rfl rfl (by omega) (by omega) (by omega)) ?_
    refine st rfl rfl rfl rfl (rLdI rfl rfl (by omega)) ?_
    refine ef rfl rfl (eCallV rfl rfl rfl (ref_Is _ _ _ _ _ _) ⟨rfl, rfl, trivial⟩ ?_) 
    refine st rfl rfl rfl rfl (rNotB rfl rfl) ?_
    refine tr_cond_bool rfl (fun h4 => ?_) (fun h4 => ?_)
    · try simp only [zbA] at h4
      refine tr_seq ?_
      refine tr_region fun _ _ _ => ?_
      refine pu rfl rfl rfl rfl rfl ?_
      have hno : ¬ AllIn (ordI p m) l := fun h => by
        have hb := h (l.getD k.toNat 0) (getD_mem (by omega) _)
        omega
      exact tr_ret ⟨trivial, _, _, rfl, ⟨by rw [entC_no hno], rfl⟩, CSub.nil _, trivial⟩
    · try simp only [zbA] at h4
      refine tr_skip ?_
      refine tr_region fun _ _ _ => ?_
      refine pu rfl rfl rfl rfl rfl ?_
      refine st rfl rfl rfl rfl (rAdd rfl rfl rfl (by omega) (by omega)) ?_
      refine pu rfl rfl rfl rfl rfl ?_
      refine ⟨k + 1, ⟨rfl, rfl, rfl, trivial⟩, by first | exact cs _ _ | exact CSub.refl _, ?_⟩
      refine ⟨⟨⟨by omega, by omega⟩, fun j hj => ?_⟩, by omega⟩
      by_cases he : (j : Int) = k
      · have : j = k.toNat := by omega
        subst this; omega
      · exact hall j (by omega)
  · try simp only [zbA] at h2
    refine tr_exit ?_
    refine tr_seq ?_
    refine tr_region fun _ _ _ => ?_
    refine pu rfl rfl rfl rfl rfl ?_
    have hok : AllIn (ordI p m) l := allIn_of_get fun j hj => hall j (by omega)
    exact tr_ret ⟨trivial, _, _, rfl, ⟨by rw [entC_ok hok], rfl⟩, CSub.nil _, trivial⟩
theorem ref_scale_ent : Enters Tryz.prog 192 := enters_of Tryz.func192 (by kernel_rfl) (by kernel_rfl)
theorem ref_scale (p m : Int) (A : Option Addr) (c : Nat) (mod : List Int) [hF : IsF p m mod] (x : Int) (B : Option Addr) (n d : Nat) (l : List Int) (hn : n = l.length) (h9 : l.length ≤ 1000000) :
    Pure Tryz.prog 192 #[.agg #[.int .i64 p, .int .i64 m, .slice A mod.length c], .int .i64 x, .slice B n d] [ro A (ints mod), ro B (ints l)] (one (fun v ch => ∃ C, v = .slice C n n ∧ ch = ow C 3 n (ints (sclR (el x : El p m mod) l)))) := by
  refine pure_of (args := [.agg #[.int .i64 p, .int .i64 m, .slice A mod.length c], .int .i64 x, .slice B n d]) 29 Tryz.func192 rfl rfl rfl ref_scale_ent ⟨id, id, trivial⟩ (fun w0 => ?_)
  refine tr_seq ?_
  refine tr_region fun _ _ _ => ?_
  refine ef rfl rfl (eBox rfl rfl rfl rfl rfl (fun p0 => ?_)) 
  refine pu rfl rfl rfl rfl rfl ?_
  refine tr_seq ?_
  refine tr_region fun _ _ _ => ?_
  refine pu rfl rfl rfl rfl rfl ?_
  refine st rfl rfl rfl rfl (rLen rfl rfl) ?_
  refine ef rfl rfl (eMakeI rfl rfl rfl rfl rfl (by omega) (by omega) (by omega) (fun A1 => ?_)) 
  refine pu rfl rfl rfl rfl rfl ?_
  simp only [Int.toNat_natCast]
  refine tr_seq ?_
  refine tr_seq ?_
  refine tr_region fun _ _ _ => ?_
  refine pu rfl rfl rfl rfl rfl ?_
  refine tr_block ?_
  refine tr_loop2 (fun (k : Int) (o : List Int) => [(1, .int .i64 x), (2, .slice B n d), (3, .pointer (some p0)), (7, .slice A1 n n), (8, .int .i64 k)]) (fun (k : Int) (o : List Int) => [ow A1 3 n (ints o), blk p0 24 [.int .i64 p, .int .i64 m, .slice A mod.length c], ro A (ints mod), ro B (ints l)]) (fun (k : Int) (o : List Int) => (0 ≤ k ∧ k ≤ n) ∧ o.length = n ∧ ∀ j : Nat, (j : Int) < k → o.getD j 0 = (el x * el (l.getD j 0) : El p m mod).1) (fun (k : Int) (o : List Int) => (n - k).toNat) (0) (List.replicate n 0) ⟨rfl, rfl, rfl, rfl, rfl, trivial⟩ (by first | exact cs _ _ | exact CSub.refl _) (⟨⟨by omega, by omega⟩, by simp, fun j hj => by omega⟩) (fun k o hI => ?_)
  obtain ⟨⟨hk0, hk1⟩, hol, ho⟩ := hI
  refine tr_seq ?_
  refine tr_seq ?_
  refine tr_region fun _ _ _ => ?_
  iterate 2 refine pu rfl rfl rfl rfl rfl ?_
  refine st rfl rfl rfl rfl (rLen rfl rfl) ?_
  refine pu rfl rfl rfl rfl rfl ?_
  refine tr_cond_bool rfl (fun h3 => ?_) (fun h3 => ?_)
  · try simp only [zbA] at h3
    refine tr_skip ?_
    refine tr_seq ?_
    refine tr_block ?_
    refine tr_draw [0, 1, 2, 3, 4, 5, 6, 7, 8, 9] [10] mixed (by kernel_rfl) fun _ _ _ => ?_
    iterate 2 refine pu rfl rfl rfl rfl rfl ?_
    refine st rfl rfl rfl rfl (rLdS rfl rfl rfl) ?_
    iterate 3 refine pu rfl rfl rfl rfl rfl ?_
    refine st rfl rfl rfl rfl (rIdxI rfl rfl rfl (by omega) (by omega) (by omega)) ?_
    refine st rfl rfl rfl rfl (rLdI rfl rfl (by omega)) ?_
    refine ef rfl rfl (eCallV rfl rfl rfl (ref_MulE _ _ _ _ _ _ _) ⟨rfl, rfl, rfl, trivial⟩ ?_) 
    refine st rfl rfl rfl rfl (rIdxI rfl rfl rfl (by omega) (by omega) (by omega)) ?_
    refine ef rfl rfl (eStI rfl rfl rfl rfl (by omega) ?_) 
    refine tr_region fun _ _ _ => ?_
    refine pu rfl rfl rfl rfl rfl ?_
    refine st rfl rfl rfl rfl (rAdd rfl rfl rfl (by omega) (by omega)) ?_
    refine pu rfl rfl rfl rfl rfl ?_
    refine ⟨k + 1, o.set k.toNat (el x * el (l.getD k.toNat 0) : El p m mod).1, ⟨rfl, rfl, rfl, rfl, rfl, trivial⟩, by first | exact cs _ _ | exact CSub.refl _, ?_⟩
    refine ⟨⟨⟨by omega, by omega⟩, by simpa using hol, fun j hj => ?_⟩, by omega⟩
    rw [getD_set]
    by_cases he : k.toNat = j
    · subst he; rw [if_pos ⟨rfl, by omega⟩]
    · rw [if_neg (fun e => he e.1)]; exact ho j (by omega)
  · try simp only [zbA] at h3
    refine tr_exit ?_
    refine tr_seq ?_
    refine tr_region fun _ _ _ => ?_
    iterate 2 refine pu rfl rfl rfl rfl rfl ?_
    have hfin : o = sclR (el x : El p m mod) l := by
      refine List.ext_getElem (by simp; omega) fun j h1 h2 => ?_
      have h3 := ho j (by omega)
      rw [List.getD_eq_getElem?_getD, List.getElem?_eq_getElem h1, List.getD_eq_getElem?_getD, List.getElem?_eq_getElem (show j < l.length by omega)] at h3
      simpa [sclR] using h3
    rw [← hfin]
    exact tr_ret ⟨trivial, _, _, rfl, ⟨_, rfl, _, rfl, rfl⟩, cs _ _, trivial, trivial⟩
theorem ref_AddTo_ent : Enters Tryz.prog 92 := enters_of Tryz.func92 (by kernel_rfl) (by kernel_rfl)
theorem ref_AddTo (p m : Int) (A : Option Addr) (c : Nat) (mod : List Int) [hF : IsF p m mod] (Aa : Option Addr) (na ca : Nat) (a : List Int) (hna : na = a.length) (ha9 : a.length ≤ 1000000) (x : Int) (B : Option Addr) (nb cb : Nat) (b : List Int) (hnb : nb = b.length) (hab : b.length = a.length) (hin : AllIn (pw p m) a) :
    Pure Tryz.prog 92 #[.agg #[.int .i64 p, .int .i64 m, .slice A mod.length c], .slice Aa na ca, .int .i64 x, .slice B nb cb] [ro A (ints mod), ro Aa (ints a), ro B (ints b)] (one (fun v ch => ∃ C, v = .slice C na na ∧ ch = ow C 3 na (ints (addR (el x : El p m mod) a b)))) := by
  refine pure_of (args := [.agg #[.int .i64 p, .int .i64 m, .slice A mod.length c], .slice Aa na ca, .int .i64 x, .slice B nb cb]) 49 Tryz.func92 rfl rfl rfl ref_AddTo_ent ⟨id, id, id, trivial⟩ (fun w0 => ?_)
  refine tr_seq ?_
  refine tr_region fun _ _ _ => ?_
  refine ef rfl rfl (eBox rfl rfl rfl rfl rfl (fun p0 => ?_)) 
  refine pu rfl rfl rfl rfl rfl ?_
  refine tr_seq ?_
  refine tr_region fun _ _ _ => ?_
  refine pu rfl rfl rfl rfl rfl ?_
  refine st rfl rfl rfl rfl (rLen rfl rfl) ?_
  refine ef rfl rfl (eMakeI rfl rfl rfl rfl rfl (by omega) (by omega) (by omega) (fun A1 => ?_)) 
  refine pu rfl rfl rfl rfl rfl ?_
  simp only [Int.toNat_natCast]
  refine tr_seq ?_
  refine tr_seq ?_
  refine tr_region fun _ _ _ => ?_
  refine pu rfl rfl rfl rfl rfl ?_
  refine tr_block ?_
  refine tr_loop2 (fun (k : Int) (o : List Int) => [(1, .slice Aa na ca), (2, .int .i64 x), (3, .slice B nb cb), (4, .pointer (some p0)), (9, .slice A1 na na), (10, .int .i64 k)]) (fun (k : Int) (o : List Int) => [ow A1 3 na (ints o), blk p0 24 [.int .i64 p, .int .i64 m, .slice A mod.length c], ro A (ints mod), ro Aa (ints a), ro B (ints b)]) (fun (k : Int) (o : List Int) => (0 ≤ k ∧ k ≤ na) ∧ o.length = na ∧ ∀ j : Nat, (j : Int) < k → o.getD j 0 = (el (a.getD j 0) + el x * el (b.getD j 0) : El p m mod).1) (fun (k : Int) (o : List Int) => (na - k).toNat) (0) (List.replicate na 0) ⟨rfl, rfl, rfl, rfl, rfl, rfl, trivial⟩ (by first | exact cs _ _ | exact CSub.refl _) (⟨⟨by omega, by omega⟩, by simp, fun j hj => by omega⟩) (fun k o hI => ?_)
  obtain ⟨⟨hk0, hk1⟩, hol, ho⟩ := hI
  have hsl : (o.set k.toNat (a.getD k.toNat 0)).length = na := by simpa using hol
  refine tr_seq ?_
  refine tr_seq ?_
  refine tr_region fun _ _ _ => ?_
  iterate 2 refine pu rfl rfl rfl rfl rfl ?_
  refine st rfl rfl rfl rfl (rLen rfl rfl) ?_
  refine pu rfl rfl rfl rfl rfl ?_
  refine tr_cond_bool rfl (fun h3 => ?_) (fun h3 => ?_)
  · try simp only [zbA] at h3
    refine tr_skip ?_
    refine tr_seq ?_
    refine tr_block ?_
    refine tr_seq ?_
    refine tr_region fun _ _ _ => ?_
    iterate 4 refine pu rfl rfl rfl rfl rfl ?_
    refine st rfl rfl rfl rfl (rIdxI rfl rfl rfl (by omega) (by omega) (by omega)) ?_
    refine st rfl rfl rfl rfl (rLdI rfl rfl (by omega)) ?_
    refine st rfl rfl rfl rfl (rIdxI rfl rfl rfl (by omega) (by omega) (by omega)) ?_
    refine ef rfl rfl (eStI rfl rfl rfl rfl (by omega) ?_) 
    refine tr_seq ?_
    refine tr_region fun _ _ _ => ?_
    iterate 2 refine pu rfl rfl rfl rfl rfl ?_
    refine st rfl rfl rfl rfl (rIdxI rfl rfl rfl (by omega) (by omega) (by omega)) ?_
    refine st rfl rfl rfl rfl (rLdI rfl rfl (by omega)) ?_
    refine pu rfl rfl rfl rfl rfl ?_
    refine tr_cond_bool rfl (fun h6 => ?_) (fun h6 => ?_)
    · try simp only [zbA] at h6
      refine tr_draw [0, 1, 2, 3, 4, 5, 6, 7, 8, 9, 10, 11, 12, 13, 14, 15] [16] mixed (by kernel_rfl) fun _ _ _ => ?_
      iterate 2 refine pu rfl rfl rfl rfl rfl ?_
      refine st rfl rfl rfl rfl (rLdS rfl rfl rfl) ?_
      iterate 2 refine pu rfl rfl rfl rfl rfl ?_
      refine st rfl rfl rfl rfl (rIdxI rfl rfl rfl (by omega) (by omega) (by omega)) ?_
      refine st rfl rfl rfl rfl (rLdI rfl rfl (by omega)) ?_
      refine st rfl rfl rfl rfl (rLdS rfl rfl rfl) ?_
      iterate 3 refine pu rfl rfl rfl rfl rfl ?_
      refine st rfl rfl rfl rfl (rIdxI rfl rfl rfl (by omega) (by omega) (by omega)) ?_
      refine st rfl rfl rfl rfl (rLdI rfl rfl (by omega)) ?_
      refine ef rfl rfl (eCallV rfl rfl rfl (ref_MulE _ _ _ _ _ _ _) ⟨rfl, rfl, rfl, trivial⟩ ?_) 
      refine ef rfl rfl (eCallV rfl rfl rfl (ref_AddE _ _ _ _ _ _ _) ⟨rfl, rfl, rfl, trivial⟩ ?_) 
      refine st rfl rfl rfl rfl (rIdxI rfl rfl rfl (by omega) (by omega) (by omega)) ?_
      refine ef rfl rfl (eStI rfl rfl rfl rfl (by omega) ?_) 
      refine tr_region fun _ _ _ => ?_
      refine pu rfl rfl rfl rfl rfl ?_
      refine st rfl rfl rfl rfl (rAdd rfl rfl rfl (by omega) (by omega)) ?_
      refine pu rfl rfl rfl rfl rfl ?_
      refine ⟨k + 1, (o.set k.toNat (a.getD k.toNat 0)).set k.toNat (el (a.getD k.toNat 0) + el (el x * el (b.getD k.toNat 0) : El p m mod).1 : El p m mod).1, ⟨rfl, rfl, rfl, rfl, rfl, rfl, trivial⟩, by first | exact cs _ _ | exact CSub.refl _, ?_⟩
      refine ⟨⟨⟨by omega, by omega⟩, by simpa using hol, fun j hj => ?_⟩, by omega⟩
      rw [getD_set, getD_set]
      by_cases he : k.toNat = j
      · subst he; rw [if_pos ⟨rfl, by omega⟩, el_of]
      · rw [if_neg (fun e => he e.1), if_neg (fun e => he e.1)]; exact ho j (by omega)
    · try simp only [zbA] at h6
      refine tr_skip ?_
      refine tr_region fun _ _ _ => ?_
      refine pu rfl rfl rfl rfl rfl ?_
      refine st rfl rfl rfl rfl (rAdd rfl rfl rfl (by omega) (by omega)) ?_
      refine pu rfl rfl rfl rfl rfl ?_
      refine ⟨k + 1, o.set k.toNat (a.getD k.toNat 0), ⟨rfl, rfl, rfl, rfl, rfl, rfl, trivial⟩, by first | exact cs _ _ | exact CSub.refl _, ?_⟩
      refine ⟨⟨⟨by omega, by omega⟩, by simpa using hol, fun j hj => ?_⟩, by omega⟩
      rw [getD_set]
      by_cases he : k.toNat = j
      · subst he
        have hb := hin.get (by have := hF.q2; omega) k.toNat
        rw [if_pos ⟨rfl, by omega⟩, show b.getD k.toNat 0 = 0 by omega, el_zero, Rg.mul_zero, Rg.add_zero, el_in hb]
      · rw [if_neg (fun e => he e.1)]; exact ho j (by omega)
  · try simp only [zbA] at h3
    refine tr_exit ?_
    refine tr_seq ?_
    refine tr_region fun _ _ _ => ?_
    iterate 2 refine pu rfl rfl rfl rfl rfl ?_
    have hfin : o = addR (el x : El p m mod) a b := ext_getD (by simp; omega) fun t => by
      by_cases ht : t < a.length
      · rw [addR_get _ _ _ ht, ho t (by omega)]
      · rw [getD_out (by omega), getD_out (by simp; omega)]
    rw [← hfin]
    exact tr_ret ⟨trivial, _, _, rfl, ⟨_, rfl, _, rfl, rfl⟩, cs _ _, trivial, trivial⟩
theorem ref_Copy_ent : Enters Tryz.prog 191 := enters_of Tryz.func191 (by kernel_rfl) (by kernel_rfl)
theorem ref_Copy (A : Option Addr) (n c : Nat) (rs : List RowM) (hn : n = rs.length) (h9 : rs.length ≤ 1000000) (h8 : ∀ r ∈ rs, r.xs.length ≤ 1000000) :
    Pure Tryz.prog 191 #[.slice A n c] [ro A (hdrs rs), rowsR rs] (two (fun v ca cb => ∃ B cap qs, v = .slice B qs.length cap ∧ ca = ow B 22 cap (hdrs qs) ∧ cb = rowsCh 3 qs ∧ qs.map (·.xs) = rs.map (·.xs))) := by
  refine pure_of (args := [.slice A n c]) 21 Tryz.func191 rfl rfl rfl ref_Copy_ent ⟨id, id, trivial⟩ (fun w0 => ?_)
  refine tr_seq ?_
  refine tr_region fun _ _ _ => ?_
  refine pu rfl rfl rfl rfl rfl ?_
  refine tr_seq ?_
  refine tr_region fun _ _ _ => ?_
  refine pu rfl rfl rfl rfl rfl ?_
  refine tr_seq ?_
  refine tr_seq ?_
  refine tr_region fun _ _ _ => ?_
  refine pu rfl rfl rfl rfl rfl ?_
  refine tr_block ?_
  refine tr_nilR 22 3 ?_
  refine tr_loop4 (fun (k : Int) (AQ : Option Addr) (cq : Nat) (qs : List RowM) => [(0, .slice A n c), (3, .slice AQ qs.length cq), (4, .int .i64 k)]) (fun (k : Int) (AQ : Option Addr) (cq : Nat) (qs : List RowM) => [ow AQ 22 cq (hdrs qs), rowsCh 3 qs, ro A (hdrs rs), rowsR rs]) (fun (k : Int) (AQ : Option Addr) (cq : Nat) (qs : List RowM) => (0 ≤ k ∧ k ≤ n) ∧ qs.map (·.xs) = (rs.take k.toNat).map (·.xs)) (fun (k : Int) (AQ : Option Addr) (cq : Nat) (qs : List RowM) => (n - k).toNat) (0) (none) (0) ([]) ⟨rfl, rfl, rfl, trivial⟩ (by first | exact cs _ _ | exact CSub.refl _) (⟨⟨by omega, by omega⟩, rfl⟩) (fun k AQ cq qs hI => ?_)
  obtain ⟨⟨hk0, hk1⟩, hq⟩ := hI
  have hql : qs.length ≤ n := by have := congrArg List.length hq; simp at this; omega
  refine tr_seq ?_
  refine tr_seq ?_
  refine tr_region fun _ _ _ => ?_
  iterate 2 refine pu rfl rfl rfl rfl rfl ?_
  refine st rfl rfl rfl rfl (rLen rfl rfl) ?_
  refine pu rfl rfl rfl rfl rfl ?_
  refine tr_cond_bool rfl (fun h3 => ?_) (fun h3 => ?_)
  · try simp only [zbA] at h3
    refine tr_skip ?_
    refine tr_seq ?_
    refine tr_block ?_
    haveI : InB k.toNat rs.length := ⟨by omega⟩
    have h8k := h8 _ (getD_mem (show k.toNat < rs.length by omega) rowD)
    have h8q : (rs[k.toNat]?.getD rowD).xs.length ≤ 1000000 := by rw [← List.getD_eq_getElem?_getD]; exact h8k
    refine tr_region fun _ _ _ => ?_
    refine pu rfl rfl rfl rfl rfl ?_
    refine ef rfl rfl (eLit0I rfl rfl rfl  (fun A5 => ?_)) 
    iterate 2 refine pu rfl rfl rfl rfl rfl ?_
    refine st rfl rfl rfl rfl (rIdxR rfl rfl rfl (by omega) (by omega) (by omega)) ?_
    refine st rfl rfl rfl rfl (rLdR rfl rfl (by omega)) ?_
    refine ef rfl rfl (eAppI rfl rfl rfl rfl rfl (by first | rfl | simp) (by first | rfl | simp) (by first | omega | (simp; omega)) (fun A5a c5a => ?_)) 
    refine ef rfl rfl (eLit1 rfl rfl rfl rfl rfl (fun A5b => ?_)) 
    refine ef rfl rfl (eAppR rfl rfl rfl rfl rfl (by first | rfl | simp) (by omega) (fun A5c c5c => ?_)) 
    refine pu rfl rfl rfl rfl rfl ?_
    refine tr_region fun _ _ _ => ?_
    refine pu rfl rfl rfl rfl rfl ?_
    refine st rfl rfl rfl rfl (rAdd rfl rfl rfl (by omega) (by omega)) ?_
    refine pu rfl rfl rfl rfl rfl ?_
    refine ⟨k + 1, A5c, c5c, qs ++ [⟨A5a, c5a, [] ++ (rs.getD k.toNat rowD).xs⟩], ⟨rfl, rfl, rfl, trivial⟩, by exact rows_app, ?_⟩
    refine ⟨⟨⟨by omega, by omega⟩, ?_⟩, by omega⟩
    rw [List.map_append, hq, show (k + 1).toNat = k.toNat + 1 by omega, List.take_add_one, List.getElem?_eq_getElem (show k.toNat < rs.length by omega), List.map_append]
    simp [List.getD_eq_getElem?_getD, show k.toNat < rs.length by omega]
  · try simp only [zbA] at h3
    refine tr_exit ?_
    refine tr_seq ?_
    refine tr_region fun _ _ _ => ?_
    iterate 2 refine pu rfl rfl rfl rfl rfl ?_
    have hkn : k.toNat = rs.length := by omega
    rw [hkn, List.take_length] at hq
    exact tr_ret ⟨trivial, _, _, rfl, ⟨_, _, rfl, AQ, cq, qs, rfl, rfl, rfl, hq⟩, cs _ _, trivial, trivial, trivial⟩
end Go.Proofs.YtgnmcoegdogfgaaGreat

set_option linter.unusedSimpArgs false
set_option linter.unusedVariables false
set_option maxRecDepth 100000
namespace Go.Proofs.YtgnmcoegdogfgaaGreat
open Go.RowKit
theorem ref_Eliminate_ent : Enters Tryz.prog 156 := enters_of Tryz.func156 (by kernel_rfl) (by kernel_rfl)
theorem ref_Eliminate (p m : Int) (A : Option Addr) (c : Nat) (mod : List Int) [hF : IsF p m mod] (w : Int) (hw0 : 0 ≤ w) (hw9 : w ≤ 1000000) (Aa : Option Addr) (n ca : Nat) (rs : List RowM) (hn : n = rs.length) (hr9 : rs.length ≤ 1000000) (hgd0 : Gd (pw p m) w.toNat rs) :
    Pure Tryz.prog 156 #[.agg #[.int .i64 p, .int .i64 m, .slice A mod.length c], .slice Aa n ca, .int .i64 w] [ro A (ints mod), ro Aa (hdrs rs), rowsR rs] (three (fun v ca cb cc => ∃ r2 B cb1 Bp cb2 ps qs, v = .tuple #[.slice B r2.length cb1, .slice Bp ps.length cb2] ∧ ca = ow B 22 cb1 (hdrs r2) ∧ cb = rowsCh 3 r2 ∧ cc = ow Bp 3 cb2 (ints ps) ∧ ps = qs.map Int.ofNat ∧ r2.length = rs.length ∧ Gd (pw p m) w.toNat r2 ∧ qs.length ≤ rs.length ∧ Vc.Rr w.toNat ((vsR r2 : List (Vc (El p m mod))).take qs.length) qs ∧ ∀ u, Vc.SpL ((vsR r2 : List (Vc (El p m mod))).take qs.length) u ↔ Vc.SpL (vsR rs) u)) := by
  have hq2 := hF.q2
  have hr8 : ∀ r ∈ rs, r.xs.length ≤ 1000000 := fun r hr => by have := (hgd0 r hr).1; omega
  refine pure_of (args := [.agg #[.int .i64 p, .int .i64 m, .slice A mod.length c], .slice Aa n ca, .int .i64 w]) 137 Tryz.func156 rfl rfl rfl ref_Eliminate_ent ⟨id, id, id, trivial⟩ (fun w0 => ?_)
  refine tr_seq ?_
  refine tr_region fun _ _ _ => ?_
  refine ef rfl rfl (eBox rfl rfl rfl rfl rfl (fun p0 => ?_)) 
  iterate 2 refine pu rfl rfl rfl rfl rfl ?_
  refine tr_seq ?_
  refine tr_region fun _ _ _ => ?_
  refine pu rfl rfl rfl rfl rfl ?_
  refine ef rfl rfl (eCall2 rfl rfl rfl (ref_Copy Aa n ca rs hn hr9 hr8) ⟨rfl, trivial⟩ ?_) 
  rintro _ _ _ ⟨B1, c1, qs1, rfl, rfl, rfl, hqs1⟩
  refine pu rfl rfl rfl rfl rfl ?_
  refine tr_seq ?_
  have hlq : qs1.length = n := by have := congrArg List.length hqs1; simp at this; omega
  rw [hlq]
  refine tr_region fun _ _ _ => ?_
  refine pu rfl rfl rfl rfl rfl ?_
  refine tr_seq ?_
  refine tr_region fun _ _ _ => ?_
  refine pu rfl rfl rfl rfl rfl ?_
  refine tr_seq ?_
  refine tr_seq ?_
  refine tr_region fun _ _ _ => ?_
  refine pu rfl rfl rfl rfl rfl ?_
  refine tr_block ?_
  refine tr_nilI 3 ?_
  refine tr_loop6 (fun (cc : Int) (k : Int) (ps : List Int) (AP : Option Addr) (cP : Nat) (r2 : List RowM) => [(2, .int .i64 w), (3, .pointer (some p0)), (8, .slice B1 n c1), (9, .slice AP ps.length cP), (10, .int .i64 k), (11, .int .i64 cc)]) (fun (cc : Int) (k : Int) (ps : List Int) (AP : Option Addr) (cP : Nat) (r2 : List RowM) => [ow AP 3 cP (ints ps), ow B1 22 c1 (hdrs r2), rowsCh 3 r2, blk p0 24 [.int .i64 p, .int .i64 m, .slice A mod.length c], ro A (ints mod)]) (fun (cc : Int) (k : Int) (ps : List Int) (AP : Option Addr) (cP : Nat) (r2 : List RowM) => (0 ≤ cc ∧ cc ≤ w) ∧ (r2.length = rs.length ∧ Gd (pw p m) w.toNat r2) ∧ ∃ qs, ps = qs.map Int.ofNat ∧ k = qs.length ∧ Vc.Eli (Vc.SpL (vsR rs : List (Vc (El p m mod)))) w.toNat (vsR r2) cc.toNat qs) (fun (cc : Int) (k : Int) (ps : List Int) (AP : Option Addr) (cP : Nat) (r2 : List RowM) => (w - cc).toNat) (0) (0) ([]) (none) (0) (qs1) ⟨rfl, rfl, rfl, rfl, rfl, rfl, trivial⟩ (by first | exact cs _ _ | exact CSub.refl _) (⟨⟨by omega, by omega⟩, ⟨by omega, Gd.of hqs1 hgd0⟩, [], rfl, rfl, by rw [← vsR_of hqs1]; exact Vc.Eli.start fun i j hi hj => by rw [vsR_at, getD_out (by rw [((Gd.of hqs1 hgd0).get (by simpa using hi)).1]; omega), el_zero]⟩) (fun cc k ps AP cP r2 hI => ?_)
  obtain ⟨⟨hc0, hc1⟩, ⟨hrl, hgd⟩, qs, hps, hkq, hE⟩ := hI
  have hpl : ps.length = qs.length := by rw [hps, List.length_map]
  have hEl := hE.len
  rw [vsR_length] at hEl
  refine tr_seq ?_
  refine tr_seq ?_
  refine tr_region fun _ _ _ => ?_
  iterate 4 refine pu rfl rfl rfl rfl rfl ?_
  refine stg rfl rfl rfl rfl rfl (fun hb => by (have hq := hb; try simp only [zbA] at hq); exact rMove rfl rfl) ?_
  refine stg rfl rfl rfl rfl rfl (fun hb => by (have hq := hb; try simp only [zbA] at hq); exact rMove rfl rfl) ?_
  refine stg rfl rfl rfl rfl rfl (fun hb => by (have hq := hb; try simp only [zbA] at hq); exact rLen rfl (evg rfl hb)) ?_
  refine stg rfl rfl rfl rfl rfl (fun hb => by (have hq := hb; try simp only [zbA] at hq); exact rLss rfl (evg rfl hb) (evg rfl hb)) ?_
  refine st rfl rfl rfl rfl (rAndB rfl rfl rfl rfl) ?_
  refine tr_cond_bool rfl (fun h5 => ?_) (fun h5 => ?_)
  · try simp only [zbA] at h5
    refine tr_skip ?_
    refine tr_seq ?_
    refine tr_block ?_
    refine tr_seq ?_
    refine tr_region fun _ _ _ => ?_
    iterate 2 refine pu rfl rfl rfl rfl rfl ?_
    refine tr_seq ?_
    refine tr_block ?_
    refine tr_loop1 (fun (ta : Int) => [(2, .int .i64 w), (3, .pointer (some p0)), (8, .slice B1 n c1), (9, .slice AP ps.length cP), (10, .int .i64 k), (11, .int .i64 cc), (12, .int .i64 ta)]) (fun (ta : Int) => [ow AP 3 cP (ints ps), ow B1 22 c1 (hdrs r2), rowsCh 3 r2, blk p0 24 [.int .i64 p, .int .i64 m, .slice A mod.length c], ro A (ints mod)]) (fun (ta : Int) => (k ≤ ta ∧ ta ≤ n) ∧ ∀ i : Nat, k ≤ i → (i : Int) < ta → (r2.getD i rowD).xs.getD cc.toNat 0 = 0) (fun (ta : Int) => (n - ta).toNat) (k) ⟨rfl, rfl, rfl, rfl, rfl, rfl, rfl, trivial⟩ (by first | exact cs _ _ | exact CSub.refl _) (⟨⟨by omega, by omega⟩, fun i h1 h2 => by omega⟩) (fun ta hI => ?_)
    obtain ⟨⟨ht0, ht1⟩, htz⟩ := hI
    refine tr_seq ?_
    refine tr_seq ?_
    refine tr_region fun _ _ _ => ?_
    iterate 2 refine pu rfl rfl rfl rfl rfl ?_
    refine st rfl rfl rfl rfl (rLen rfl rfl) ?_
    iterate 2 refine pu rfl rfl rfl rfl rfl ?_
    refine stg rfl rfl rfl rfl rfl (fun hb => by (have hq := hb; try simp only [zbA] at hq); exact rMove rfl rfl) ?_
    refine stg rfl rfl rfl rfl rfl (fun hb => by (have hq := hb; try simp only [zbA] at hq); exact rMove rfl rfl) ?_
    refine stg rfl rfl rfl rfl rfl (fun hb => by (have hq := hb; try simp only [zbA] at hq); exact rIdxR rfl (evg rfl hb) (evg rfl hb) (by omega) (by omega) (by omega)) ?_
    refine stg rfl rfl rfl rfl rfl (fun hb => by (have hq := hb; try simp only [zbA] at hq); exact rLdR rfl (evg rfl hb) (by omega)) ?_
    refine stg rfl rfl rfl rfl rfl (fun hb => by (have hq := hb; try simp only [zbA] at hq); exact rMove rfl rfl) ?_
    refine stg rfl rfl rfl rfl rfl (fun hb => by (have hq := hb; try simp only [zbA] at hq); exact (haveI : InB ta.toNat r2.length := ⟨by omega⟩; have hw := (hgd.get (show ta.toNat < r2.length by omega)).1; rIdxI rfl (evg rfl hb) (evg rfl hb) (by omega) (by omega) (by omega))) ?_
    refine stg rfl rfl rfl rfl rfl (fun hb => by (have hq := hb; try simp only [zbA] at hq); exact (haveI : InB ta.toNat r2.length := ⟨by omega⟩; have hw := (hgd.get (show ta.toNat < r2.length by omega)).1; rLdI rfl (evg rfl hb) (by omega))) ?_
    refine stg rfl rfl rfl rfl rfl (fun hb => by (have hq := hb; try simp only [zbA] at hq); exact rEql rfl (evg rfl hb) rfl) ?_
    refine st rfl rfl rfl rfl (rAndB rfl rfl rfl rfl) ?_
    refine tr_cond_bool rfl (fun h8 => ?_) (fun h8 => ?_)
    · try simp only [zbA] at h8
      refine tr_skip ?_
      refine tr_block ?_
      refine tr_region fun _ _ _ => ?_
      refine pu rfl rfl rfl rfl rfl ?_
      refine st rfl rfl rfl rfl (rAdd rfl rfl rfl (by omega) (by omega)) ?_
      refine pu rfl rfl rfl rfl rfl ?_
      refine ⟨ta + 1, ⟨rfl, rfl, rfl, rfl, rfl, rfl, rfl, trivial⟩, by first | exact cs _ _ | exact CSub.refl _, ?_⟩
      refine ⟨⟨⟨by omega, by omega⟩, fun i h1 h2 => ?_⟩, by omega⟩
      by_cases he : (i : Int) = ta
      · have : i = ta.toNat := by omega
        rw [this]; exact h8.2
      · exact htz i h1 (by omega)
    · try simp only [zbA] at h8
      refine tr_exit ?_
      refine tr_seq ?_
      refine tr_seq ?_
      refine tr_region fun _ _ _ => ?_
      iterate 2 refine pu rfl rfl rfl rfl rfl ?_
      refine st rfl rfl rfl rfl (rLen rfl rfl) ?_
      refine pu rfl rfl rfl rfl rfl ?_
      refine tr_cond_bool rfl (fun h10 => ?_) (fun h10 => ?_)
      · try simp only [zbA] at h10
        refine tr_exit ?_
        refine tr_region fun _ _ _ => ?_
        refine pu rfl rfl rfl rfl rfl ?_
        refine st rfl rfl rfl rfl (rAdd rfl rfl rfl (by omega) (by omega)) ?_
        refine pu rfl rfl rfl rfl rfl ?_
        refine ⟨cc + 1, k, ps, AP, cP, r2, ⟨rfl, rfl, rfl, rfl, rfl, rfl, trivial⟩, by first | exact cs _ _ | exact CSub.refl _, ?_⟩
        refine ⟨⟨⟨by omega, by omega⟩, ⟨hrl, hgd⟩, qs, hps, hkq, ?_⟩, by omega⟩
        rw [show (cc + 1).toNat = cc.toNat + 1 by omega]
        refine hE.skip fun i h1 h2 => ?_
        rw [vsR_length] at h2
        rw [vsR_at, htz i (by omega) (by omega), el_zero]
      · try simp only [zbA] at h10
        refine tr_skip ?_
        refine tr_seq ?_
        have hne : (r2.getD ta.toNat rowD).xs.getD cc.toNat 0 ≠ 0 := h8.resolve_left (fun h => h (by omega))
        have hkn : k.toNat = qs.length := by omega
        haveI : InB ta.toNat r2.length := ⟨by omega⟩
        haveI : InB k.toNat r2.length := ⟨by omega⟩
        refine tr_plan [] [(0, 0), (0, 1), (2, 2), (2, 3), (0, 4), (0, 5), (0, 6), (0, 7), (0, 8), (0, 9), (0, 10), (0, 11), (0, 12), (1, 13), (0, 14), (1, 15)] mixed (by kernel_rfl) fun _ _ _ => ?_
        iterate 2 refine pu rfl rfl rfl rfl rfl ?_
        refine stF rfl rfl rfl rfl (cs _ _) (rMove rfl rfl) ?_
        refine stF rfl rfl rfl rfl (cs _ _) (rMove rfl rfl) ?_
        iterate 2 refine pu rfl rfl rfl rfl rfl ?_
        refine st rfl rfl rfl rfl (rIdxR rfl rfl rfl (by omega) (by omega) (by omega)) ?_
        refine st rfl rfl rfl rfl (rLdR rfl rfl (by omega)) ?_
        iterate 2 refine pu rfl rfl rfl rfl rfl ?_
        refine st rfl rfl rfl rfl (rIdxR rfl rfl rfl (by omega) (by omega) (by omega)) ?_
        refine st rfl rfl rfl rfl (rLdR rfl rfl (by omega)) ?_
        refine st rfl rfl rfl rfl (rIdxR rfl rfl rfl (by omega) (by omega) (by omega)) ?_
        refine ef rfl rfl (eSt rfl rfl rfl rfl (by first | omega | (simp; omega)) rfl rfl ?_) 
        refine ⟨cs _ _, ?_⟩
        refine st rfl rfl rfl rfl (rIdx rfl rfl rfl (by omega) (by omega) (by simp; omega)) ?_
        refine ef rfl rfl (eSt rfl rfl rfl rfl (by first | omega | (simp; omega)) rfl rfl ?_) 
        refine ⟨cs _ _, ?_⟩
        have hh : ((hdrs r2).set k.toNat (.slice (r2.getD ta.toNat rowD).A (r2.getD ta.toNat rowD).xs.length (r2.getD ta.toNat rowD).cap)).set ta.toNat (.slice (r2.getD k.toNat rowD).A (r2.getD k.toNat rowD).xs.length (r2.getD k.toNat rowD).cap) = hdrs ((r2.set k.toNat (r2.getD ta.toNat rowD)).set ta.toNat (r2.getD k.toNat rowD)) := by rw [hdrs_set, hdrs_set]; rfl
        rw [hh]
        refine tr_chunks _ ((cs _ [rowsCh 3 r2, ow B1 22 c1 (hdrs ((r2.set k.toNat (r2.getD ta.toNat rowD)).set ta.toNat (r2.getD k.toNat rowD))), ow AP 3 cP (ints ps), blk p0 24 [.int .i64 p, .int .i64 m, .slice A mod.length c], ro A (ints mod)]).trans (rows_perm (swap_perm rowD r2 (i := k.toNat) (j := ta.toNat) (by omega) (by omega)) _)) ?_
        have hrl3 : ((r2.set k.toNat (r2.getD ta.toNat rowD)).set ta.toNat (r2.getD k.toNat rowD)).length = rs.length := by simpa using hrl
        have hgd3 := hgd.perm (swap_perm rowD r2 (i := k.toNat) (j := ta.toNat) (by omega) (by omega))
        have hE3 : Vc.Eli (Vc.SpL (vsR rs : List (Vc (El p m mod)))) w.toNat (vsR ((r2.set k.toNat (r2.getD ta.toNat rowD)).set ta.toNat (r2.getD k.toNat rowD))) cc.toNat qs := by
          have := hE.swap (a := ta.toNat) (by omega) (by rw [vsR_length]; omega)
          rw [← hkn, vsR_get, vsR_get] at this
          rw [vsR_set, vsR_set]; exact this
        have hne3 : (((r2.set k.toNat (r2.getD ta.toNat rowD)).set ta.toNat (r2.getD k.toNat rowD)).getD k.toNat rowD).xs.getD cc.toNat 0 ≠ 0 := by
          rw [row_set, row_set]
          by_cases e : ta.toNat = k.toNat
          · rw [if_pos ⟨e, by simp; omega⟩, ← e]; exact hne
          · rw [if_neg (fun x => e x.1), if_pos ⟨rfl, by omega⟩]; exact hne
        generalize (r2.set k.toNat (r2.getD ta.toNat rowD)).set ta.toNat (r2.getD k.toNat rowD) = r3 at hrl3 hgd3 hE3 hne3
        haveI : InB k.toNat r3.length := ⟨by omega⟩
        have hw3 := hgd3.get (show k.toNat < r3.length by omega)
        have hen := hw3.2.get (by omega) cc.toNat
        have hnz3 : (el ((r3.getD k.toNat rowD).xs.getD cc.toNat 0) : El p m mod) ≠ 0 := fun e => hne3 ((el_eq_zero hen).1 e)
        have hw31 := hw3.1
        refine tr_join (fun (q : (List RowM)) => match q with | r4 => [(2, .int .i64 w), (3, .pointer (some p0)), (8, .slice B1 n c1), (9, .slice AP ps.length cP), (10, .int .i64 k), (11, .int .i64 cc)]) (fun (q : (List RowM)) => match q with | r4 => [ow AP 3 cP (ints ps), ow B1 22 c1 (hdrs r4), rowsCh 3 r4, blk p0 24 [.int .i64 p, .int .i64 m, .slice A mod.length c], ro A (ints mod)]) (fun (q : (List RowM)) => match q with | r4 => (r4.length = rs.length ∧ Gd (pw p m) w.toNat r4) ∧ Vc.Eli (Vc.SpL (vsR rs : List (Vc (El p m mod)))) w.toNat (vsR r4) cc.toNat qs ∧ (r4.getD k.toNat rowD).xs.getD cc.toNat 0 = 1) ?_ ?_
        · refine tr_seq ?_
          refine tr_region fun _ _ _ => ?_
          iterate 2 refine pu rfl rfl rfl rfl rfl ?_
          refine st rfl rfl rfl rfl (rIdxR rfl rfl rfl (by omega) (by omega) (by omega)) ?_
          refine st rfl rfl rfl rfl (rLdR rfl rfl (by omega)) ?_
          refine pu rfl rfl rfl rfl rfl ?_
          refine st rfl rfl rfl rfl (rIdxI rfl rfl rfl (by omega) (by omega) (by omega)) ?_
          refine st rfl rfl rfl rfl (rLdI rfl rfl (by omega)) ?_
          refine pu rfl rfl rfl rfl rfl ?_
          refine tr_cond_bool rfl (fun h12 => ?_) (fun h12 => ?_)
          · try simp only [zbA] at h12
            refine tr_draw [0, 1, 2, 3, 4, 5, 6, 7, 8, 9, 10, 12, 13, 14, 15, 11, 16, 17] [18] mixed (by kernel_rfl) fun _ _ _ => ?_
            iterate 2 refine pu rfl rfl rfl rfl rfl ?_
            refine st rfl rfl rfl rfl (rLdS rfl rfl rfl) ?_
            refine st rfl rfl rfl rfl (rLdS rfl rfl rfl) ?_
            iterate 2 refine pu rfl rfl rfl rfl rfl ?_
            refine st rfl rfl rfl rfl (rIdxR rfl rfl rfl (by omega) (by omega) (by omega)) ?_
            refine st rfl rfl rfl rfl (rLdR rfl rfl (by omega)) ?_
            refine pu rfl rfl rfl rfl rfl ?_
            refine st rfl rfl rfl rfl (rIdxI rfl rfl rfl (by omega) (by omega) (by omega)) ?_
            refine st rfl rfl rfl rfl (rLdI rfl rfl (by omega)) ?_
            iterate 2 refine pu rfl rfl rfl rfl rfl ?_
            refine st rfl rfl rfl rfl (rIdxR rfl rfl rfl (by omega) (by omega) (by omega)) ?_
            refine st rfl rfl rfl rfl (rLdR rfl rfl (by omega)) ?_
            refine ef rfl rfl (eCallV rfl rfl rfl (ref_InvE _ _ _ _ _ _) ⟨rfl, rfl, trivial⟩ ?_) 
            refine ef rfl rfl (eCall1 rfl rfl rfl (ref_scale p m A c mod _ _ _ _ (r3.getD k.toNat rowD).xs rfl (by omega)) ⟨rfl, rfl, rfl, trivial⟩ ?_) 
            rintro _ _ ⟨B13, rfl, rfl⟩
            refine st rfl rfl rfl rfl (rIdxR rfl rfl rfl (by omega) (by omega) (by omega)) ?_
            refine ef rfl rfl (eSt rfl rfl rfl rfl (by first | omega | (simp; omega)) rfl rfl ?_) 
            refine ⟨(r3.set k.toNat (⟨B13, (r3.getD k.toNat rowD).xs.length, sclR (el ((Fd.inv (el ((r3.getD k.toNat rowD).xs.getD cc.toNat 0)) : El p m mod).1) : El p m mod) (r3.getD k.toNat rowD).xs⟩ : RowM)), ⟨rfl, rfl, rfl, rfl, rfl, rfl, trivial⟩, by dsimp only; rw [← (show (hdrs r3).set k.toNat (.slice B13 (r3.getD k.toNat rowD).xs.length (r3.getD k.toNat rowD).xs.length) = hdrs (r3.set k.toNat (⟨B13, (r3.getD k.toNat rowD).xs.length, sclR (el ((Fd.inv (el ((r3.getD k.toNat rowD).xs.getD cc.toNat 0)) : El p m mod).1) : El p m mod) (r3.getD k.toNat rowD).xs⟩ : RowM)) by rw [hdrs_set]; simp [RowM.hdr])]; exact (cs _ [rowsCh 3 r3, ow B13 3 (r3.getD k.toNat rowD).xs.length (ints (RowM.xs (⟨B13, (r3.getD k.toNat rowD).xs.length, sclR (el ((Fd.inv (el ((r3.getD k.toNat rowD).xs.getD cc.toNat 0)) : El p m mod).1) : El p m mod) (r3.getD k.toNat rowD).xs⟩ : RowM))), ow B1 22 c1 ((hdrs r3).set k.toNat (.slice B13 (r3.getD k.toNat rowD).xs.length (r3.getD k.toNat rowD).xs.length)), ow AP 3 cP (ints ps), blk p0 24 [.int .i64 p, .int .i64 m, .slice A mod.length c], ro A (ints mod)]).trans ((rows_put (r := (⟨B13, (r3.getD k.toNat rowD).xs.length, sclR (el ((Fd.inv (el ((r3.getD k.toNat rowD).xs.getD cc.toNat 0)) : El p m mod).1) : El p m mod) (r3.getD k.toNat rowD).xs⟩ : RowM)) (show k.toNat < r3.length by omega) _).trans (cs _ _)), ?_⟩
            refine ⟨⟨by simpa using hrl3, hgd3.set _ (by simpa using hw3.1) (sclR_in _ _)⟩, ?_, ?_⟩
            · have := hE3.scale (by rw [vsR_length]; omega) (Fd.inv_ne hnz3)
              rw [← hkn, vsR_get] at this
              rw [vsR_set, rw_sclR, el_of]; exact this
            · rw [row_set, if_pos ⟨rfl, by omega⟩]
              refine (val_of_el (mod := mod) (sclR_in _ _) cc.toNat trivial ?_)
              have := congrFun (rw_sclR (el ((Fd.inv (el ((r3.getD k.toNat rowD).xs.getD cc.toNat 0)) : El p m mod).1) : El p m mod) (r3.getD k.toNat rowD).xs) cc.toNat
              rw [rw_at, Vc.sc_at, rw_at, el_of] at this
              rw [el_of, this]; exact Fd.inv_mul _ hnz3
          · try simp only [zbA] at h12
            refine tr_skip ?_
            refine ⟨(r3), ⟨rfl, rfl, rfl, rfl, rfl, rfl, trivial⟩, by first | exact cs _ _ | exact CSub.refl _, ?_⟩
            exact ⟨⟨hrl3, hgd3⟩, hE3, by omega⟩
        · rintro r4 hI
          obtain ⟨⟨hrl4, hgd4⟩, hE4, hone4⟩ := hI
          refine tr_seq ?_
          refine tr_seq ?_
          refine tr_region fun _ _ _ => ?_
          refine pu rfl rfl rfl rfl rfl ?_
          refine tr_block ?_
          refine tr_loop2 (fun (i : Int) (r5 : List RowM) => [(2, .int .i64 w), (3, .pointer (some p0)), (8, .slice B1 n c1), (9, .slice AP ps.length cP), (10, .int .i64 k), (11, .int .i64 cc), (13, .int .i64 i)]) (fun (i : Int) (r5 : List RowM) => [ow AP 3 cP (ints ps), ow B1 22 c1 (hdrs r5), rowsCh 3 r5, blk p0 24 [.int .i64 p, .int .i64 m, .slice A mod.length c], ro A (ints mod)]) (fun (i : Int) (r5 : List RowM) => (0 ≤ i ∧ i ≤ n) ∧ (r5.length = rs.length ∧ Gd (pw p m) w.toNat r5) ∧ Vc.Eli (Vc.SpL (vsR rs : List (Vc (El p m mod)))) w.toNat (vsR r5) cc.toNat qs ∧ (r5.getD k.toNat rowD).xs.getD cc.toNat 0 = 1 ∧ ∀ t : Nat, (t : Int) < i → t ≠ k.toNat → (r5.getD t rowD).xs.getD cc.toNat 0 = 0) (fun (i : Int) (r5 : List RowM) => (n - i).toNat) (0) (r4) ⟨rfl, rfl, rfl, rfl, rfl, rfl, rfl, trivial⟩ (by first | exact cs _ _ | exact CSub.refl _) (⟨⟨by omega, by omega⟩, ⟨hrl4, hgd4⟩, hE4, hone4, fun t h1 h2 => by omega⟩) (fun i r5 hI => ?_)
          obtain ⟨⟨hi0, hi1⟩, ⟨hrl5, hgd5⟩, hE5, hone5, hz5⟩ := hI
          refine tr_seq ?_
          refine tr_seq ?_
          refine tr_region fun _ _ _ => ?_
          iterate 2 refine pu rfl rfl rfl rfl rfl ?_
          refine st rfl rfl rfl rfl (rLen rfl rfl) ?_
          refine pu rfl rfl rfl rfl rfl ?_
          refine tr_cond_bool rfl (fun h15 => ?_) (fun h15 => ?_)
          · try simp only [zbA] at h15
            refine tr_skip ?_
            refine tr_seq ?_
            refine tr_block ?_
            refine tr_seq ?_
            refine tr_region fun _ _ _ => ?_
            iterate 4 refine pu rfl rfl rfl rfl rfl ?_
            refine stg rfl rfl rfl rfl rfl (fun hb => by (have hq := hb; try simp only [zbA] at hq); exact rMove rfl rfl) ?_
            refine stg rfl rfl rfl rfl rfl (fun hb => by (have hq := hb; try simp only [zbA] at hq); exact rMove rfl rfl) ?_
            refine stg rfl rfl rfl rfl rfl (fun hb => by (have hq := hb; try simp only [zbA] at hq); exact rIdxR rfl (evg rfl hb) (evg rfl hb) (by omega) (by omega) (by omega)) ?_
            refine stg rfl rfl rfl rfl rfl (fun hb => by (have hq := hb; try simp only [zbA] at hq); exact rLdR rfl (evg rfl hb) (by omega)) ?_
            refine stg rfl rfl rfl rfl rfl (fun hb => by (have hq := hb; try simp only [zbA] at hq); exact rMove rfl rfl) ?_
            refine stg rfl rfl rfl rfl rfl (fun hb => by (have hq := hb; try simp only [zbA] at hq); exact (haveI : InB i.toNat r5.length := ⟨by omega⟩; have hw := (hgd5.get (show i.toNat < r5.length by omega)).1; rIdxI rfl (evg rfl hb) (evg rfl hb) (by omega) (by omega) (by omega))) ?_
            refine stg rfl rfl rfl rfl rfl (fun hb => by (have hq := hb; try simp only [zbA] at hq); exact (haveI : InB i.toNat r5.length := ⟨by omega⟩; have hw := (hgd5.get (show i.toNat < r5.length by omega)).1; rLdI rfl (evg rfl hb) (by omega))) ?_
            refine stg rfl rfl rfl rfl rfl (fun hb => by (have hq := hb; try simp only [zbA] at hq); exact rNeq rfl (evg rfl hb) rfl) ?_
            refine st rfl rfl rfl rfl (rAndB rfl rfl rfl rfl) ?_
            refine tr_cond_bool rfl (fun h17 => ?_) (fun h17 => ?_)
            · try simp only [zbA] at h17
              haveI : InB i.toNat r5.length := ⟨by omega⟩
              haveI : InB k.toNat r5.length := ⟨by omega⟩
              have hwi := hgd5.get (show i.toNat < r5.length by omega)
              have hwk := hgd5.get (show k.toNat < r5.length by omega)
              have hwi1 := hwi.1
              have hwk1 := hwk.1
              refine tr_draw [0, 1, 2, 3, 4, 5, 6, 7, 8, 9, 10, 11, 12, 13, 14, 16, 17, 18, 19, 15, 20, 21] [22] mixed (by kernel_rfl) fun _ _ _ => ?_
              iterate 2 refine pu rfl rfl rfl rfl rfl ?_
              refine st rfl rfl rfl rfl (rLdS rfl rfl rfl) ?_
              iterate 2 refine pu rfl rfl rfl rfl rfl ?_
              refine st rfl rfl rfl rfl (rIdxR rfl rfl rfl (by omega) (by omega) (by omega)) ?_
              refine st rfl rfl rfl rfl (rLdR rfl rfl (by omega)) ?_
              refine st rfl rfl rfl rfl (rLdS rfl rfl rfl) ?_
              iterate 2 refine pu rfl rfl rfl rfl rfl ?_
              refine st rfl rfl rfl rfl (rIdxR rfl rfl rfl (by omega) (by omega) (by omega)) ?_
              refine st rfl rfl rfl rfl (rLdR rfl rfl (by omega)) ?_
              refine pu rfl rfl rfl rfl rfl ?_
              refine st rfl rfl rfl rfl (rIdxI rfl rfl rfl (by omega) (by omega) (by omega)) ?_
              refine st rfl rfl rfl rfl (rLdI rfl rfl (by omega)) ?_
              iterate 2 refine pu rfl rfl rfl rfl rfl ?_
              refine st rfl rfl rfl rfl (rIdxR rfl rfl rfl (by omega) (by omega) (by omega)) ?_
              refine st rfl rfl rfl rfl (rLdR rfl rfl (by omega)) ?_
              refine ef rfl rfl (eCallV rfl rfl rfl (ref_NegE _ _ _ _ _ _) ⟨rfl, rfl, trivial⟩ ?_) 
              refine ef rfl rfl (eCall1 rfl rfl rfl (ref_AddTo p m A c mod _ _ _ (r5.getD i.toNat rowD).xs rfl (by omega) _ _ _ _ (r5.getD k.toNat rowD).xs rfl (by omega) hwi.2) ⟨rfl, rfl, rfl, rfl, trivial⟩ ?_) 
              rintro _ _ ⟨B18, rfl, rfl⟩
              refine st rfl rfl rfl rfl (rIdxR rfl rfl rfl (by omega) (by omega) (by omega)) ?_
              refine ef rfl rfl (eSt rfl rfl rfl rfl (by first | omega | (simp; omega)) rfl rfl ?_) 
              refine tr_region fun _ _ _ => ?_
              refine pu rfl rfl rfl rfl rfl ?_
              refine st rfl rfl rfl rfl (rAdd rfl rfl rfl (by omega) (by omega)) ?_
              refine pu rfl rfl rfl rfl rfl ?_
              refine ⟨i + 1, r5.set i.toNat (⟨B18, (r5.getD i.toNat rowD).xs.length, addR (el (-(el ((r5.getD i.toNat rowD).xs.getD cc.toNat 0)) : El p m mod).1 : El p m mod) (r5.getD i.toNat rowD).xs (r5.getD k.toNat rowD).xs⟩ : RowM), ⟨rfl, rfl, rfl, rfl, rfl, rfl, rfl, trivial⟩, by rw [← (show (hdrs r5).set i.toNat (.slice B18 (r5.getD i.toNat rowD).xs.length (r5.getD i.toNat rowD).xs.length) = hdrs (r5.set i.toNat (⟨B18, (r5.getD i.toNat rowD).xs.length, addR (el (-(el ((r5.getD i.toNat rowD).xs.getD cc.toNat 0)) : El p m mod).1 : El p m mod) (r5.getD i.toNat rowD).xs (r5.getD k.toNat rowD).xs⟩ : RowM)) by rw [hdrs_set]; simp [RowM.hdr])]; exact (cs _ [rowsCh 3 r5, ow B18 3 (r5.getD i.toNat rowD).xs.length (ints (RowM.xs (⟨B18, (r5.getD i.toNat rowD).xs.length, addR (el (-(el ((r5.getD i.toNat rowD).xs.getD cc.toNat 0)) : El p m mod).1 : El p m mod) (r5.getD i.toNat rowD).xs (r5.getD k.toNat rowD).xs⟩ : RowM))), ow B1 22 c1 ((hdrs r5).set i.toNat (.slice B18 (r5.getD i.toNat rowD).xs.length (r5.getD i.toNat rowD).xs.length)), ow AP 3 cP (ints ps), blk p0 24 [.int .i64 p, .int .i64 m, .slice A mod.length c], ro A (ints mod)]).trans ((rows_put (r := (⟨B18, (r5.getD i.toNat rowD).xs.length, addR (el (-(el ((r5.getD i.toNat rowD).xs.getD cc.toNat 0)) : El p m mod).1 : El p m mod) (r5.getD i.toNat rowD).xs (r5.getD k.toNat rowD).xs⟩ : RowM)) (show i.toNat < r5.length by omega) _).trans (cs _ _)), ?_⟩
              refine ⟨⟨⟨by omega, by omega⟩, ⟨by simpa using hrl5, hgd5.set _ (by simpa using hwi.1) (addR_in _ _ _)⟩, ?_, ?_, fun t h1 h2 => ?_⟩, by omega⟩
              · have := hE5.plus (by rw [vsR_length]; omega) (i := i.toNat) (by rw [vsR_length]; omega) (by omega) (-(el ((r5.getD i.toNat rowD).xs.getD cc.toNat 0) : El p m mod))
                rw [← hkn, vsR_get, vsR_get] at this
                rw [vsR_set, rw_addR _ _ _ (by omega), el_of]; exact this
              · rw [row_set, if_neg (by omega)]; exact hone5
              · rw [row_set]
                split
                · rename_i he
                  obtain ⟨rfl, he⟩ := he
                  show (addR _ _ _).getD cc.toNat 0 = 0
                  rw [addR_get _ _ _ (by omega), hone5, el_one, el_of]
                  exact congrArg Subtype.val (show (el ((r5.getD i.toNat rowD).xs.getD cc.toNat 0) + -el ((r5.getD i.toNat rowD).xs.getD cc.toNat 0) * 1 : El p m mod) = 0 by grind)
                · exact hz5 t (by omega) h2
            · try simp only [zbA] at h17
              refine tr_skip ?_
              refine tr_region fun _ _ _ => ?_
              refine pu rfl rfl rfl rfl rfl ?_
              refine st rfl rfl rfl rfl (rAdd rfl rfl rfl (by omega) (by omega)) ?_
              refine pu rfl rfl rfl rfl rfl ?_
              refine ⟨i + 1, r5, ⟨rfl, rfl, rfl, rfl, rfl, rfl, rfl, trivial⟩, by first | exact cs _ _ | exact CSub.refl _, ?_⟩
              refine ⟨⟨⟨by omega, by omega⟩, ⟨hrl5, hgd5⟩, hE5, hone5, fun t h1 h2 => ?_⟩, by omega⟩
              by_cases he : t = i.toNat
              · subst he
                have h3 : i ≠ k := by omega
                exact h17.resolve_left h3
              · exact hz5 t (by omega) h2
          · try simp only [zbA] at h15
            refine tr_exit ?_
            refine tr_seq ?_
            refine tr_region fun _ _ _ => ?_
            iterate 2 refine pu rfl rfl rfl rfl rfl ?_
            refine ef rfl rfl (eLit1I rfl rfl rfl rfl (fun A19 => ?_)) 
            refine ef rfl rfl (eAppI rfl rfl rfl rfl rfl (by first | rfl | simp) (by first | rfl | simp) (by first | omega | (simp; omega)) (fun A19a c19a => ?_)) 
            refine pu rfl rfl rfl rfl rfl ?_
            refine tr_region fun _ _ _ => ?_
            refine pu rfl rfl rfl rfl rfl ?_
            refine st rfl rfl rfl rfl (rAdd rfl rfl rfl (by omega) (by omega)) ?_
            refine pu rfl rfl rfl rfl rfl ?_
            refine tr_region fun _ _ _ => ?_
            refine pu rfl rfl rfl rfl rfl ?_
            refine st rfl rfl rfl rfl (rAdd rfl rfl rfl (by omega) (by omega)) ?_
            refine pu rfl rfl rfl rfl rfl ?_
            refine ⟨cc + 1, k + 1, ps ++ [cc], A19a, c19a, r5, ⟨rfl, rfl, rfl, rfl, rfl, rfl, trivial⟩, by first | exact cs _ _ | exact CSub.refl _, ?_⟩
            refine ⟨⟨⟨by omega, by omega⟩, ⟨hrl5, hgd5⟩, qs ++ [cc.toNat], ?_, by simp; omega, ?_⟩, by omega⟩
            · rw [hps, List.map_append]; simp; omega
            · rw [show (cc + 1).toNat = cc.toNat + 1 by omega]
              refine hE5.push (by rw [vsR_length]; omega) ?_ (fun t h1 h2 => ?_)
              · rw [vsR_at, ← hkn, hone5, el_one]
              · rw [vsR_length] at h1
                rw [vsR_at, hz5 t (by omega) (by omega), el_zero]
  · try simp only [zbA] at h5
    refine tr_exit ?_
    refine tr_seq ?_
    refine tr_region fun _ _ _ => ?_
    iterate 4 refine pu rfl rfl rfl rfl rfl ?_
    obtain ⟨hR1, hR2⟩ := hE.done (by rw [vsR_length]; omega) (by omega)
    exact tr_ret ⟨trivial, _, _, rfl, ⟨_, _, _, rfl, r2, B1, c1, AP, cP, ps, qs, by rw [show n = r2.length by omega], rfl, rfl, rfl, hps, hrl, hgd, by omega, hR1, hR2⟩, cs _ _, trivial, trivial, trivial, trivial⟩
end Go.Proofs.YtgnmcoegdogfgaaGreat

set_option linter.unusedSimpArgs false
set_option linter.unusedVariables false
set_option maxRecDepth 100000
namespace Go.Proofs.YtgnmcoegdogfgaaGreat
open Go.RowKit
theorem hdrs_take (A : Option Addr) (e : TypeId) (cap : Nat) (rs : List RowM) (k : Nat) (F : List Chunk) : CSub (ow A e cap (hdrs rs) :: F) (ow A e cap (hdrs (rs.take k)) :: F) := by
  have h := ow_shrink (e := e) (A := A) (cap := cap) (vs := hdrs (rs.take k)) (ws := hdrs (rs.drop k)) F
  rwa [← hdrs_append, List.take_append_drop] at h
theorem ref_RCanon_ent : Enters Tryz.prog 107 := enters_of Tryz.func107 (by kernel_rfl) (by kernel_rfl)
theorem ref_RCanon (p m : Int) (A : Option Addr) (c : Nat) (mod : List Int) [hF : IsF p m mod] (w : Int) (hw0 : 0 ≤ w) (hw9 : w ≤ 1000000) (Aa : Option Addr) (n ca : Nat) (rs : List RowM) (hn : n = rs.length) (hr9 : rs.length ≤ 1000000) (hgd0 : Gd (pw p m) w.toNat rs) :
    Pure Tryz.prog 107 #[.agg #[.int .i64 p, .int .i64 m, .slice A mod.length c], .slice Aa n ca, .int .i64 w] [ro A (ints mod), ro Aa (hdrs rs), rowsR rs] (three (fun v ca cb cc => ∃ r3 B cb1 Bp cb2 ps, v = .tuple #[.slice B r3.length cb1, .slice Bp ps.length cb2] ∧ ca = ow B 22 cb1 (hdrs r3) ∧ cb = rowsCh 3 r3 ∧ cc = ow Bp 3 cb2 (ints ps) ∧ RrOf p m mod w.toNat rs r3 ps ∧ r3.length ≤ rs.length)) := by
  refine pure_of (args := [.agg #[.int .i64 p, .int .i64 m, .slice A mod.length c], .slice Aa n ca, .int .i64 w]) 22 Tryz.func107 rfl rfl rfl ref_RCanon_ent ⟨id, id, id, trivial⟩ (fun w0 => ?_)
  refine tr_seq ?_
  refine tr_region fun _ _ _ => ?_
  refine ef rfl rfl (eBox rfl rfl rfl rfl rfl (fun p0 => ?_)) 
  iterate 2 refine pu rfl rfl rfl rfl rfl ?_
  refine tr_seq ?_
  refine tr_region fun _ _ _ => ?_
  refine st rfl rfl rfl rfl (rLdS rfl rfl rfl) ?_
  iterate 2 refine pu rfl rfl rfl rfl rfl ?_
  refine ef rfl rfl (eCall3 rfl rfl rfl (ref_Eliminate p m A c mod w hw0 hw9 Aa n ca rs hn hr9 hgd0) ⟨rfl, rfl, rfl, trivial⟩ ?_) 
  rintro _ _ _ _ ⟨r2, B1, cb1, Bp, cb2, ps, qs, rfl, rfl, rfl, rfl, hps, hrl, hgd, hql, hR1, hR2⟩
  iterate 5 refine pu rfl rfl rfl rfl rfl ?_
  refine tr_seq ?_
  refine tr_cap B1 22 cb1 (hdrs r2) fun hcap => ?_
  rw [hdrs_length] at hcap
  have hpl : ps.length = qs.length := by rw [hps, List.length_map]
  refine tr_region fun _ _ _ => ?_
  iterate 2 refine pu rfl rfl rfl rfl rfl ?_
  refine st rfl rfl rfl rfl (rLen rfl rfl) ?_
  refine st rfl rfl rfl rfl (rCutHi rfl rfl rfl (by omega) (by omega)) ?_
  iterate 3 refine pu rfl rfl rfl rfl rfl ?_
  simp only [Int.toNat_natCast]
  have htl : (r2.take ps.length).length = ps.length := by rw [List.length_take]; omega
  have hRr : RrOf p m mod w.toNat rs (r2.take ps.length) ps := by
    rw [vsR_take, ← hpl] at hR1 hR2
    exact ⟨hgd.take _, htl.symm, ⟨qs, hps, hR1⟩, hR2⟩
  exact tr_ret ⟨trivial, _, _, rfl, ⟨_, _, _, rfl, r2.take ps.length, B1, cb1, Bp, cb2, ps, by rw [htl], rfl, rfl, rfl, hRr, by omega⟩, (cs _ [ow B1 22 cb1 (hdrs r2), rowsCh 3 r2, ow Bp 3 cb2 (ints ps)]).trans ((hdrs_take _ _ _ _ _ _).trans (CSub.cons _ (rows_take _ _))), trivial, trivial, trivial, trivial⟩
end Go.Proofs.YtgnmcoegdogfgaaGreat

set_option linter.unusedSimpArgs false
set_option linter.unusedVariables false
set_option maxRecDepth 100000
namespace Go.Proofs.YtgnmcoegdogfgaaGreat
open Go.RowKit
section
variable {p m : Int} {mod : List Int} [hF : IsF p m mod]
end
end Go.Proofs.YtgnmcoegdogfgaaGreat

set_option linter.unusedSimpArgs false
set_option linter.unusedVariables false
set_option maxRecDepth 100000
namespace Go.Proofs.YtgnmcoegdogfgaaGreat
open Go.RowKit
open Classical in
noncomputable def rowsC (q w : Int) (l : List (List Int)) : Int :=
  if ¬ (0 ≤ w ∧ w ≤ 256 ∧ l.length ≤ 256) then 3 else if ¬ ∀ r ∈ l, (r.length : Int) = w then 3 else if ∀ r ∈ l, AllIn q r then 0 else 2
theorem rowsC_shape {q w : Int} {l : List (List Int)} (h : ¬ (0 ≤ w ∧ w ≤ 256 ∧ l.length ≤ 256)) : rowsC q w l = 3 := by unfold rowsC; rw [if_pos h]
theorem rowsC_len {q w : Int} {l : List (List Int)} (h1 : ¬ ∀ r ∈ l, (r.length : Int) = w) : rowsC q w l = 3 := by
  unfold rowsC; split
  · rfl
  · rfl
theorem rowsC_ent {q w : Int} {l : List (List Int)} (h : 0 ≤ w ∧ w ≤ 256 ∧ l.length ≤ 256) (h1 : ∀ r ∈ l, (r.length : Int) = w) (h2 : ¬ ∀ r ∈ l, AllIn q r) : rowsC q w l = 2 := by
  unfold rowsC; rw [if_neg (fun k => k h), if_neg (fun k => k h1), if_neg h2]
theorem rowsC_ok {q w : Int} {l : List (List Int)} (h : 0 ≤ w ∧ w ≤ 256 ∧ l.length ≤ 256) (h1 : ∀ r ∈ l, (r.length : Int) = w) (h2 : ∀ r ∈ l, AllIn q r) : rowsC q w l = 0 := by
  unfold rowsC; rw [if_neg (fun k => k h), if_neg (fun k => k h1), if_pos h2]
theorem rowsC_zero {q w : Int} {l : List (List Int)} (h : rowsC q w l = 0) : (0 ≤ w ∧ w ≤ 256 ∧ l.length ≤ 256) ∧ (∀ r ∈ l, (r.length : Int) = w) ∧ ∀ r ∈ l, AllIn q r := by
  by_cases h1 : 0 ≤ w ∧ w ≤ 256 ∧ l.length ≤ 256
  · by_cases h2 : ∀ r ∈ l, (r.length : Int) = w
    · by_cases h3 : ∀ r ∈ l, AllIn q r
      · exact ⟨h1, h2, h3⟩
      · rw [rowsC_ent h1 h2 h3] at h; omega
    · rw [rowsC_len h2] at h; omega
  · rw [rowsC_shape h1] at h; omega
def xss (rs : List RowM) : List (List Int) := rs.map (·.xs)
@[simp] theorem xss_length (rs : List RowM) : (xss rs).length = rs.length := by simp [xss]
theorem xss_all {rs : List RowM} {φ : List Int → Prop} : (∀ r ∈ xss rs, φ r) ↔ ∀ r ∈ rs, φ r.xs := by simp [xss]
theorem xss_get {rs : List RowM} {φ : List Int → Prop} (h : ∀ j : Nat, j < rs.length → φ (rs.getD j rowD).xs) : ∀ r ∈ xss rs, φ r := xss_all.2 fun r hr => by
  obtain ⟨j, hj, rfl⟩ := List.getElem_of_mem hr
  have := h j hj
  rwa [List.getD_eq_getElem?_getD, List.getElem?_eq_getElem hj] at this
theorem xss_no {rs : List RowM} {φ : List Int → Prop} {j : Nat} (hj : j < rs.length) (h : ¬ φ (rs.getD j rowD).xs) : ¬ ∀ r ∈ xss rs, φ r := fun k => h (xss_all.1 k _ (getD_mem hj _))
theorem Gd_iff {q w : Int} {rs : List RowM} (hw : 0 ≤ w) : Gd q w.toNat rs ↔ (∀ r ∈ xss rs, (r.length : Int) = w) ∧ ∀ r ∈ xss rs, AllIn q r := by
  rw [xss_all, xss_all]
  exact ⟨fun h => ⟨fun r hr => by have := (h r hr).1; omega, fun r hr => (h r hr).2⟩, fun h r hr => ⟨by have := h.1 r hr; omega, h.2 r hr⟩⟩
theorem mat_entriesC_ent : Enters Tryz.prog 233 := enters_of Tryz.func233 (by kernel_rfl) (by kernel_rfl)
theorem mat_entriesC (g : GfM) (q : Int) (hq : g.q = q) (A : Option Addr) (n c : Nat) (l : List Int) (hn : n = l.length) (h9 : l.length ≤ 17592186044415) :
    Pure Tryz.prog 233 #[.pointer (some g.p), .slice A n c] [gfR g, ro A (ints l)] (isV (.int .i64 (entC q l))) := by
  refine pure_of (args := [.pointer (some g.p), .slice A n c]) 18 Tryz.func233 rfl rfl rfl mat_entriesC_ent ⟨id, id, trivial⟩ (fun w0 => ?_)
  refine tr_seq ?_
  refine tr_region fun _ _ _ => ?_
  refine pu rfl rfl rfl rfl rfl ?_
  refine tr_seq ?_
  refine tr_seq ?_
  refine tr_region fun _ _ _ => ?_
  refine pu rfl rfl rfl rfl rfl ?_
  refine st rfl rfl rfl rfl (rLen rfl rfl) ?_
  refine pu rfl rfl rfl rfl rfl ?_
  refine tr_block ?_
  refine tr_loop1 (fun (k : Int) => [(9, .int .i64 k), (0, .pointer (some g.p)), (7, .slice A n c), (8, .int .i64 n)]) (fun (k : Int) => [gfR g, ro A (ints l)]) (fun (k : Int) => (0 ≤ k ∧ k ≤ n) ∧ ∀ j : Nat, (j : Int) < k → 0 ≤ l.getD j 0 ∧ l.getD j 0 < q) (fun (k : Int) => (n - k).toNat) (0) ⟨rfl, rfl, rfl, rfl, trivial⟩ (by first | exact cs _ _ | exact CSub.refl _) (⟨⟨by omega, by omega⟩, fun j hj => by omega⟩) (fun k hI => ?_)
  obtain ⟨⟨hk0, hk1⟩, hall⟩ := hI
  refine tr_seq ?_
  refine tr_region fun _ _ _ => ?_
  refine pu rfl rfl rfl rfl rfl ?_
  refine tr_seq ?_
  refine tr_cond_bool rfl (fun h2 => ?_) (fun h2 => ?_)
  · try simp only [zbA] at h2
    refine tr_skip ?_
    refine tr_seq ?_
    refine tr_block ?_
    refine tr_seq ?_
    refine tr_region fun _ _ _ => ?_
    refine st rfl rfl rfl rfl (rIdxI rfl rfl rfl (by omega) (by omega) (by omega)) ?_
    refine st rfl rfl rfl rfl (rLdI rfl rfl (by omega)) ?_
    refine pu rfl rfl rfl rfl rfl ?_
    refine tr_seq ?_
    refine tr_region fun _ _ _ => ?_
    iterate 2 refine pu rfl rfl rfl rfl rfl ?_
    refine ef rfl rfl (eCallV rfl rfl rfl (gf_Is _ _) ⟨rfl, rfl, trivial⟩ ?_) 
    refine st rfl rfl rfl rfl (rNotB rfl rfl) ?_
    refine tr_cond_bool rfl (fun h4 => ?_) (fun h4 => ?_)
    · try simp only [zbA] at h4
      refine tr_seq ?_
      refine tr_region fun _ _ _ => ?_
      refine pu rfl rfl rfl rfl rfl ?_
      have hno : ¬ AllIn q l := fun h => by
        have hb := h (l.getD k.toNat 0) (getD_mem (by omega) _)
        omega
      exact tr_ret ⟨trivial, _, _, rfl, ⟨by rw [entC_no hno], rfl⟩, CSub.nil _, trivial⟩
    · try simp only [zbA] at h4
      refine tr_skip ?_
      refine tr_region fun _ _ _ => ?_
      refine st rfl rfl rfl rfl (rAdd rfl rfl rfl (by omega) (by omega)) ?_
      refine pu rfl rfl rfl rfl rfl ?_
      refine ⟨k + 1, ⟨rfl, rfl, rfl, rfl, trivial⟩, by first | exact cs _ _ | exact CSub.refl _, ?_⟩
      refine ⟨⟨⟨by omega, by omega⟩, fun j hj => ?_⟩, by omega⟩
      by_cases he : (j : Int) = k
      · have : j = k.toNat := by omega
        subst this; omega
      · exact hall j (by omega)
  · try simp only [zbA] at h2
    refine tr_exit ?_
    refine tr_seq ?_
    refine tr_region fun _ _ _ => ?_
    refine pu rfl rfl rfl rfl rfl ?_
    have hok : AllIn q l := allIn_of_get fun j hj => hall j (by omega)
    exact tr_ret ⟨trivial, _, _, rfl, ⟨by rw [entC_ok hok], rfl⟩, CSub.nil _, trivial⟩
theorem entC_cases (q : Int) (l : List Int) : (AllIn q l ∧ entC q l = 0) ∨ (¬ AllIn q l ∧ entC q l = 2) := by
  by_cases h : AllIn q l
  · exact .inl ⟨h, entC_ok h⟩
  · exact .inr ⟨h, entC_no h⟩
theorem mat_checkC_ent : Enters Tryz.prog 212 := enters_of Tryz.func212 (by kernel_rfl) (by kernel_rfl)
theorem mat_checkC (g : GfM) (q : Int) (hq : g.q = q) (w : Int) (A : Option Addr) (n c : Nat) (rs : List RowM) (hn : n = rs.length) (h9 : rs.length ≤ 17592186044415) (h8 : ∀ r ∈ rs, r.xs.length ≤ 17592186044415) :
    Pure Tryz.prog 212 #[.pointer (some g.p), .agg #[.int .i64 w, .slice A n c]] [gfR g, ro A (hdrs rs), rowsR rs] (isV (.int .i64 (rowsC q w (xss rs)))) := by
  refine pure_of (args := [.pointer (some g.p), .agg #[.int .i64 w, .slice A n c]]) 51 Tryz.func212 rfl rfl rfl mat_checkC_ent ⟨id, id, id, trivial⟩ (fun w0 => ?_)
  refine tr_seq ?_
  refine tr_region fun _ _ _ => ?_
  refine ef rfl rfl (eBox rfl rfl rfl rfl rfl (fun p0 => ?_)) 
  refine pu rfl rfl rfl rfl rfl ?_
  refine tr_seq ?_
  refine tr_seq ?_
  refine tr_region fun _ _ _ => ?_
  refine st rfl rfl rfl rfl (rFld rfl rfl) ?_
  refine st rfl rfl rfl rfl (rLdF rfl rfl rfl) ?_
  iterate 2 refine pu rfl rfl rfl rfl rfl ?_
  refine stg rfl rfl rfl rfl rfl (fun hb => by (have hq := hb; try simp only [zbA] at hq); exact rFld rfl rfl) ?_
  refine stg rfl rfl rfl rfl rfl (fun hb => by (have hq := hb; try simp only [zbA] at hq); exact rLdF rfl (evg rfl hb) rfl) ?_
  refine stg rfl rfl rfl rfl rfl (fun hb => by (have hq := hb; try simp only [zbA] at hq); exact rGtr rfl (evg rfl hb) rfl) ?_
  refine st rfl rfl rfl rfl (rOrB rfl rfl rfl rfl) ?_
  refine pu rfl rfl rfl rfl rfl ?_
  refine stg rfl rfl rfl rfl rfl (fun hb => by (have hq := hb; try simp only [zbA] at hq); exact rFld rfl rfl) ?_
  refine stg rfl rfl rfl rfl rfl (fun hb => by (have hq := hb; try simp only [zbA] at hq); exact rLdF rfl (evg rfl hb) rfl) ?_
  refine stg rfl rfl rfl rfl rfl (fun hb => by (have hq := hb; try simp only [zbA] at hq); exact rLen rfl (evg rfl hb)) ?_
  refine stg rfl rfl rfl rfl rfl (fun hb => by (have hq := hb; try simp only [zbA] at hq); exact rGtr rfl (evg rfl hb) rfl) ?_
  refine st rfl rfl rfl rfl (rOrB rfl rfl rfl rfl) ?_
  refine tr_cond_bool rfl (fun h1 => ?_) (fun h1 => ?_)
  · try simp only [zbA] at h1
    refine tr_seq ?_
    refine tr_region fun _ _ _ => ?_
    refine pu rfl rfl rfl rfl rfl ?_
    exact tr_ret ⟨trivial, _, _, rfl, ⟨by rw [rowsC_shape (by rw [xss_length]; omega)], rfl⟩, CSub.nil _, trivial⟩
  · try simp only [zbA] at h1
    refine tr_skip ?_
    refine tr_seq ?_
    refine tr_seq ?_
    refine tr_region fun _ _ _ => ?_
    refine st rfl rfl rfl rfl (rFld rfl rfl) ?_
    refine st rfl rfl rfl rfl (rLdF rfl rfl rfl) ?_
    refine st rfl rfl rfl rfl (rLen rfl rfl) ?_
    refine pu rfl rfl rfl rfl rfl ?_
    refine tr_block ?_
    refine tr_loop1 (fun (k : Int) => [(27, .int .i64 k), (0, .pointer (some g.p)), (3, .pointer (some p0)), (25, .slice A n c), (26, .int .i64 n)]) (fun (k : Int) => [blk p0 84 [.int .i64 w, .slice A n c], gfR g, ro A (hdrs rs), rowsR rs]) (fun (k : Int) => (0 ≤ k ∧ k ≤ n) ∧ ∀ j : Nat, (j : Int) < k → ((rs.getD j rowD).xs.length : Int) = w) (fun (k : Int) => (n - k).toNat) (0) ⟨rfl, rfl, rfl, rfl, rfl, trivial⟩ (by first | exact cs _ _ | exact CSub.refl _) (⟨⟨by omega, by omega⟩, fun j hj => by omega⟩) (fun k hI => ?_)
    obtain ⟨⟨hk0, hk1⟩, hall⟩ := hI
    refine tr_seq ?_
    refine tr_region fun _ _ _ => ?_
    refine pu rfl rfl rfl rfl rfl ?_
    refine tr_seq ?_
    refine tr_cond_bool rfl (fun h4 => ?_) (fun h4 => ?_)
    · try simp only [zbA] at h4
      refine tr_skip ?_
      refine tr_seq ?_
      refine tr_block ?_
      refine tr_seq ?_
      haveI : InB k.toNat rs.length := ⟨by omega⟩
      have hk8 := h8 _ (getD_mem (show k.toNat < rs.length by omega) rowD)
      refine tr_region fun _ _ _ => ?_
      refine st rfl rfl rfl rfl (rIdxR rfl rfl rfl (by omega) (by omega) (by omega)) ?_
      refine st rfl rfl rfl rfl (rLdR rfl rfl (by omega)) ?_
      refine pu rfl rfl rfl rfl rfl ?_
      refine tr_seq ?_
      refine tr_region fun _ _ _ => ?_
      refine pu rfl rfl rfl rfl rfl ?_
      refine st rfl rfl rfl rfl (rLen rfl rfl) ?_
      refine st rfl rfl rfl rfl (rFld rfl rfl) ?_
      refine st rfl rfl rfl rfl (rLdF rfl rfl rfl) ?_
      refine pu rfl rfl rfl rfl rfl ?_
      refine tr_cond_bool rfl (fun h6 => ?_) (fun h6 => ?_)
      · try simp only [zbA] at h6
        refine tr_seq ?_
        refine tr_region fun _ _ _ => ?_
        refine pu rfl rfl rfl rfl rfl ?_
        have hno := xss_no (φ := fun r => (r.length : Int) = w) (show k.toNat < rs.length by omega) (by omega)
        exact tr_ret ⟨trivial, _, _, rfl, ⟨by rw [rowsC_len hno], rfl⟩, CSub.nil _, trivial⟩
      · try simp only [zbA] at h6
        refine tr_skip ?_
        refine tr_region fun _ _ _ => ?_
        refine st rfl rfl rfl rfl (rAdd rfl rfl rfl (by omega) (by omega)) ?_
        refine pu rfl rfl rfl rfl rfl ?_
        refine ⟨k + 1, ⟨rfl, rfl, rfl, rfl, rfl, trivial⟩, by first | exact cs _ _ | exact CSub.refl _, ?_⟩
        refine ⟨⟨⟨by omega, by omega⟩, fun j hj => ?_⟩, by omega⟩
        by_cases he : (j : Int) = k
        · have : j = k.toNat := by omega
          subst this; omega
        · exact hall j (by omega)
    · try simp only [zbA] at h4
      refine tr_exit ?_
      refine tr_seq ?_
      refine tr_seq ?_
      refine tr_region fun _ _ _ => ?_
      refine st rfl rfl rfl rfl (rFld rfl rfl) ?_
      refine st rfl rfl rfl rfl (rLdF rfl rfl rfl) ?_
      refine st rfl rfl rfl rfl (rLen rfl rfl) ?_
      refine pu rfl rfl rfl rfl rfl ?_
      refine tr_block ?_
      refine tr_loop1 (fun (k : Int) => [(40, .int .i64 k), (0, .pointer (some g.p)), (38, .slice A n c), (39, .int .i64 n)]) (fun (k : Int) => [blk p0 84 [.int .i64 w, .slice A n c], gfR g, ro A (hdrs rs), rowsR rs]) (fun (k : Int) => (0 ≤ k ∧ k ≤ n) ∧ ∀ j : Nat, (j : Int) < k → AllIn q (rs.getD j rowD).xs) (fun (k : Int) => (n - k).toNat) (0) ⟨rfl, rfl, rfl, rfl, trivial⟩ (by first | exact cs _ _ | exact CSub.refl _) (⟨⟨by omega, by omega⟩, fun j hj => by omega⟩) (fun k hI => ?_)
      have hlen : ∀ r ∈ xss rs, (r.length : Int) = w := xss_get fun j hj => hall j (by omega)
      clear hall
      obtain ⟨⟨hk0, hk1⟩, hall⟩ := hI
      refine tr_seq ?_
      refine tr_region fun _ _ _ => ?_
      refine pu rfl rfl rfl rfl rfl ?_
      refine tr_seq ?_
      refine tr_cond_bool rfl (fun h10 => ?_) (fun h10 => ?_)
      · try simp only [zbA] at h10
        refine tr_skip ?_
        refine tr_seq ?_
        refine tr_block ?_
        refine tr_seq ?_
        haveI : InB k.toNat rs.length := ⟨by omega⟩
        have hk8 := h8 _ (getD_mem (show k.toNat < rs.length by omega) rowD)
        refine tr_region fun _ _ _ => ?_
        refine st rfl rfl rfl rfl (rIdxR rfl rfl rfl (by omega) (by omega) (by omega)) ?_
        refine st rfl rfl rfl rfl (rLdR rfl rfl (by omega)) ?_
        refine pu rfl rfl rfl rfl rfl ?_
        refine tr_seq ?_
        refine tr_region fun _ _ _ => ?_
        iterate 2 refine pu rfl rfl rfl rfl rfl ?_
        refine ef rfl rfl (eCallV rfl rfl rfl (mat_entriesC g q hq _ _ _ (rs.getD k.toNat rowD).xs rfl hk8) ⟨rfl, rfl, trivial⟩ ?_) 
        refine pu rfl rfl rfl rfl rfl ?_
        refine tr_seq ?_
        refine tr_region fun _ _ _ => ?_
        iterate 2 refine pu rfl rfl rfl rfl rfl ?_
        refine tr_cond_bool rfl (fun h13 => ?_) (fun h13 => ?_)
        · try simp only [zbA] at h13
          have hek : ¬ AllIn q (rs.getD k.toNat rowD).xs := fun h => absurd (entC_ok h) (by omega)
          refine tr_seq ?_
          refine tr_region fun _ _ _ => ?_
          iterate 2 refine pu rfl rfl rfl rfl rfl ?_
          have hwb : 0 ≤ w ∧ w ≤ 256 ∧ (xss rs).length ≤ 256 := by rw [xss_length]; omega
          have hno := xss_no (φ := fun r => AllIn q r) (show k.toNat < rs.length by omega) hek
          exact tr_ret ⟨trivial, _, _, rfl, ⟨by rw [rowsC_ent hwb hlen hno, entC_no hek], rfl⟩, CSub.nil _, trivial⟩
        · try simp only [zbA] at h13
          have hek : AllIn q (rs.getD k.toNat rowD).xs := by
            rcases entC_cases q (rs.getD k.toNat rowD).xs with h | h
            · exact h.1
            · exact absurd h.2 (by omega)
          refine tr_skip ?_
          refine tr_region fun _ _ _ => ?_
          refine st rfl rfl rfl rfl (rAdd rfl rfl rfl (by omega) (by omega)) ?_
          refine pu rfl rfl rfl rfl rfl ?_
          refine ⟨k + 1, ⟨rfl, rfl, rfl, rfl, trivial⟩, by first | exact cs _ _ | exact CSub.refl _, ?_⟩
          refine ⟨⟨⟨by omega, by omega⟩, fun j hj => ?_⟩, by omega⟩
          by_cases he : (j : Int) = k
          · have : j = k.toNat := by omega
            subst this; exact hek
          · exact hall j (by omega)
      · try simp only [zbA] at h10
        refine tr_exit ?_
        refine tr_seq ?_
        refine tr_region fun _ _ _ => ?_
        refine pu rfl rfl rfl rfl rfl ?_
        have hwb : 0 ≤ w ∧ w ≤ 256 ∧ (xss rs).length ≤ 256 := by rw [xss_length]; omega
        have hall2 : ∀ r ∈ xss rs, AllIn q r := xss_get fun j hj => hall j (by omega)
        exact tr_ret ⟨trivial, _, _, rfl, ⟨by rw [rowsC_ok hwb hlen hall2], rfl⟩, CSub.nil _, trivial⟩
theorem ref_RCheckOk_ent : Enters Tryz.prog 106 := enters_of Tryz.func106 (by kernel_rfl) (by kernel_rfl)
theorem ref_RCheckOk (p m : Int) (A : Option Addr) (c : Nat) (mod : List Int) (hl9 : mod.length ≤ 17592186044415) (hF : FldR p m mod) (q : Int) (hq : ordI p m = q) (w : Int) (Aa : Option Addr) (n ca : Nat) (rs : List RowM) (hn : n = rs.length) (h9 : rs.length ≤ 17592186044415) (h8 : ∀ r ∈ rs, r.xs.length ≤ 17592186044415) :
    Pure Tryz.prog 106 #[.agg #[.int .i64 p, .int .i64 m, .slice A mod.length c], .agg #[.int .i64 w, .slice Aa n ca]] [ro A (ints mod), ro Aa (hdrs rs), rowsR rs] (isV (.int .i64 (rowsC q w (xss rs)))) := by
  refine pure_of (args := [.agg #[.int .i64 p, .int .i64 m, .slice A mod.length c], .agg #[.int .i64 w, .slice Aa n ca]]) 60 Tryz.func106 rfl rfl rfl ref_RCheckOk_ent ⟨id, id, id, trivial⟩ (fun w0 => ?_)
  refine tr_seq ?_
  refine tr_region fun _ _ _ => ?_
  refine ef rfl rfl (eBox rfl rfl rfl rfl rfl (fun p0 => ?_)) 
  refine ef rfl rfl (eBox rfl rfl rfl rfl rfl (fun p0a => ?_)) 
  refine pu rfl rfl rfl rfl rfl ?_
  refine tr_seq ?_
  refine tr_region fun _ _ _ => ?_
  refine st rfl rfl rfl rfl (rLdS rfl rfl rfl) ?_
  refine ef rfl rfl (eCallV rfl rfl rfl (ref_fldCheck _ _ _ _ _ hl9) ⟨rfl, trivial⟩ ?_) 
  refine pu rfl rfl rfl rfl rfl ?_
  refine tr_seq ?_
  refine tr_seq ?_
  refine tr_region fun _ _ _ => ?_
  iterate 2 refine pu rfl rfl rfl rfl rfl ?_
  refine tr_cond_bool rfl (fun h2 => ?_) (fun h2 => ?_)
  · try simp only [zbA] at h2
    rcases chkF_cases p m mod with h | h
    · omega
    · exact absurd hF h.1 --done
  · try simp only [zbA] at h2
    refine tr_skip ?_
    refine tr_seq ?_
    refine tr_seq ?_
    refine tr_region fun _ _ _ => ?_
    refine st rfl rfl rfl rfl (rFld rfl rfl) ?_
    refine st rfl rfl rfl rfl (rLdF rfl rfl rfl) ?_
    iterate 2 refine pu rfl rfl rfl rfl rfl ?_
    refine stg rfl rfl rfl rfl rfl (fun hb => by (have hq := hb; try simp only [zbA] at hq); exact rFld rfl rfl) ?_
    refine stg rfl rfl rfl rfl rfl (fun hb => by (have hq := hb; try simp only [zbA] at hq); exact rLdF rfl (evg rfl hb) rfl) ?_
    refine stg rfl rfl rfl rfl rfl (fun hb => by (have hq := hb; try simp only [zbA] at hq); exact rGtr rfl (evg rfl hb) rfl) ?_
    refine st rfl rfl rfl rfl (rOrB rfl rfl rfl rfl) ?_
    refine pu rfl rfl rfl rfl rfl ?_
    refine stg rfl rfl rfl rfl rfl (fun hb => by (have hq := hb; try simp only [zbA] at hq); exact rFld rfl rfl) ?_
    refine stg rfl rfl rfl rfl rfl (fun hb => by (have hq := hb; try simp only [zbA] at hq); exact rLdF rfl (evg rfl hb) rfl) ?_
    refine stg rfl rfl rfl rfl rfl (fun hb => by (have hq := hb; try simp only [zbA] at hq); exact rLen rfl (evg rfl hb)) ?_
    refine stg rfl rfl rfl rfl rfl (fun hb => by (have hq := hb; try simp only [zbA] at hq); exact rGtr rfl (evg rfl hb) rfl) ?_
    refine st rfl rfl rfl rfl (rOrB rfl rfl rfl rfl) ?_
    refine tr_cond_bool rfl (fun h4 => ?_) (fun h4 => ?_)
    · try simp only [zbA] at h4
      refine tr_seq ?_
      refine tr_region fun _ _ _ => ?_
      refine pu rfl rfl rfl rfl rfl ?_
      exact tr_ret ⟨trivial, _, _, rfl, ⟨by rw [rowsC_shape (by rw [xss_length]; omega)], rfl⟩, CSub.nil _, trivial⟩
    · try simp only [zbA] at h4
      refine tr_skip ?_
      refine tr_seq ?_
      refine tr_seq ?_
      refine tr_region fun _ _ _ => ?_
      refine pu rfl rfl rfl rfl rfl ?_
      refine tr_block ?_
      refine tr_loop1 (fun (k : Int) => [(6, .int .i64 k), (2, .pointer (some p0)), (3, .pointer (some p0a))]) (fun (k : Int) => [blk p0 24 [.int .i64 p, .int .i64 m, .slice A mod.length c], blk p0a 84 [.int .i64 w, .slice Aa n ca], ro A (ints mod), ro Aa (hdrs rs), rowsR rs]) (fun (k : Int) => (0 ≤ k ∧ k ≤ n) ∧ ∀ j : Nat, (j : Int) < k → ((rs.getD j rowD).xs.length : Int) = w) (fun (k : Int) => (n - k).toNat) (0) ⟨rfl, rfl, rfl, trivial⟩ (by first | exact cs _ _ | exact CSub.refl _) (⟨⟨by omega, by omega⟩, fun j hj => by omega⟩) (fun k hI => ?_)
      obtain ⟨⟨hk0, hk1⟩, hall⟩ := hI
      refine tr_seq ?_
      refine tr_seq ?_
      refine tr_region fun _ _ _ => ?_
      refine pu rfl rfl rfl rfl rfl ?_
      refine st rfl rfl rfl rfl (rFld rfl rfl) ?_
      refine st rfl rfl rfl rfl (rLdF rfl rfl rfl) ?_
      refine st rfl rfl rfl rfl (rLen rfl rfl) ?_
      refine pu rfl rfl rfl rfl rfl ?_
      refine tr_cond_bool rfl (fun h7 => ?_) (fun h7 => ?_)
      · try simp only [zbA] at h7
        refine tr_skip ?_
        refine tr_seq ?_
        refine tr_block ?_
        refine tr_seq ?_
        haveI : InB k.toNat rs.length := ⟨by omega⟩
        have hk8 := h8 _ (getD_mem (show k.toNat < rs.length by omega) rowD)
        refine tr_draw [0, 1, 2, 3, 4, 5, 6, 7, 8] [] mixed (by kernel_rfl) fun _ _ _ => ?_
        refine st rfl rfl rfl rfl (rFld rfl rfl) ?_
        refine st rfl rfl rfl rfl (rLdF rfl rfl rfl) ?_
        refine pu rfl rfl rfl rfl rfl ?_
        refine st rfl rfl rfl rfl (rIdxR rfl rfl rfl (by omega) (by omega) (by omega)) ?_
        refine st rfl rfl rfl rfl (rLdR rfl rfl (by omega)) ?_
        refine st rfl rfl rfl rfl (rLen rfl rfl) ?_
        refine st rfl rfl rfl rfl (rFld rfl rfl) ?_
        refine st rfl rfl rfl rfl (rLdF rfl rfl rfl) ?_
        refine pu rfl rfl rfl rfl rfl ?_
        refine tr_cond_bool rfl (fun h9 => ?_) (fun h9 => ?_)
        · try simp only [zbA] at h9
          refine tr_seq ?_
          refine tr_region fun _ _ _ => ?_
          refine pu rfl rfl rfl rfl rfl ?_
          have hno := xss_no (φ := fun r => (r.length : Int) = w) (show k.toNat < rs.length by omega) (by omega)
          exact tr_ret ⟨trivial, _, _, rfl, ⟨by rw [rowsC_len hno], rfl⟩, CSub.nil _, trivial⟩
        · try simp only [zbA] at h9
          refine tr_skip ?_
          refine tr_region fun _ _ _ => ?_
          refine pu rfl rfl rfl rfl rfl ?_
          refine st rfl rfl rfl rfl (rAdd rfl rfl rfl (by omega) (by omega)) ?_
          refine pu rfl rfl rfl rfl rfl ?_
          refine ⟨k + 1, ⟨rfl, rfl, rfl, trivial⟩, by first | exact cs _ _ | exact CSub.refl _, ?_⟩
          refine ⟨⟨⟨by omega, by omega⟩, fun j hj => ?_⟩, by omega⟩
          by_cases he : (j : Int) = k
          · have : j = k.toNat := by omega
            subst this; omega
          · exact hall j (by omega)
      · try simp only [zbA] at h7
        refine tr_exit ?_
        refine tr_seq ?_
        refine tr_seq ?_
        refine tr_region fun _ _ _ => ?_
        refine pu rfl rfl rfl rfl rfl ?_
        refine tr_block ?_
        refine tr_loop1 (fun (k : Int) => [(7, .int .i64 k), (2, .pointer (some p0)), (3, .pointer (some p0a))]) (fun (k : Int) => [blk p0 24 [.int .i64 p, .int .i64 m, .slice A mod.length c], blk p0a 84 [.int .i64 w, .slice Aa n ca], ro A (ints mod), ro Aa (hdrs rs), rowsR rs]) (fun (k : Int) => (0 ≤ k ∧ k ≤ n) ∧ ∀ j : Nat, (j : Int) < k → AllIn q (rs.getD j rowD).xs) (fun (k : Int) => (n - k).toNat) (0) ⟨rfl, rfl, rfl, trivial⟩ (by first | exact cs _ _ | exact CSub.refl _) (⟨⟨by omega, by omega⟩, fun j hj => by omega⟩) (fun k hI => ?_)
        have hlen : ∀ r ∈ xss rs, (r.length : Int) = w := xss_get fun j hj => hall j (by omega)
        clear hall
        obtain ⟨⟨hk0, hk1⟩, hall⟩ := hI
        refine tr_seq ?_
        refine tr_seq ?_
        refine tr_region fun _ _ _ => ?_
        refine pu rfl rfl rfl rfl rfl ?_
        refine st rfl rfl rfl rfl (rFld rfl rfl) ?_
        refine st rfl rfl rfl rfl (rLdF rfl rfl rfl) ?_
        refine st rfl rfl rfl rfl (rLen rfl rfl) ?_
        refine pu rfl rfl rfl rfl rfl ?_
        refine tr_cond_bool rfl (fun h12 => ?_) (fun h12 => ?_)
        · try simp only [zbA] at h12
          refine tr_skip ?_
          refine tr_seq ?_
          refine tr_block ?_
          refine tr_seq ?_
          haveI : InB k.toNat rs.length := ⟨by omega⟩
          have hk8 := h8 _ (getD_mem (show k.toNat < rs.length by omega) rowD)
          refine tr_draw [0, 1, 2, 3, 4, 5, 6, 7] [] mixed (by kernel_rfl) fun _ _ _ => ?_
          refine st rfl rfl rfl rfl (rLdS rfl rfl rfl) ?_
          refine st rfl rfl rfl rfl (rFld rfl rfl) ?_
          refine st rfl rfl rfl rfl (rLdF rfl rfl rfl) ?_
          refine pu rfl rfl rfl rfl rfl ?_
          refine st rfl rfl rfl rfl (rIdxR rfl rfl rfl (by omega) (by omega) (by omega)) ?_
          refine st rfl rfl rfl rfl (rLdR rfl rfl (by omega)) ?_
          refine ef rfl rfl (eCallV rfl rfl rfl (ref_Entries _ _ _ _ _ _ _ _ (rs.getD k.toNat rowD).xs rfl hk8) ⟨rfl, rfl, trivial⟩ ?_) 
          refine pu rfl rfl rfl rfl rfl ?_
          refine tr_seq ?_
          refine tr_region fun _ _ _ => ?_
          iterate 2 refine pu rfl rfl rfl rfl rfl ?_
          refine tr_cond_bool rfl (fun h15 => ?_) (fun h15 => ?_)
          · try simp only [zbA] at h15
            rw [hq] at h15
            have hek : ¬ AllIn q (rs.getD k.toNat rowD).xs := fun h => absurd (entC_ok h) (by omega)
            refine tr_seq ?_
            refine tr_region fun _ _ _ => ?_
            iterate 2 refine pu rfl rfl rfl rfl rfl ?_
            have hwb : 0 ≤ w ∧ w ≤ 256 ∧ (xss rs).length ≤ 256 := by rw [xss_length]; omega
            have hno := xss_no (φ := fun r => AllIn q r) (show k.toNat < rs.length by omega) hek
            exact tr_ret ⟨trivial, _, _, rfl, ⟨by rw [rowsC_ent hwb hlen hno, hq, entC_no hek], rfl⟩, CSub.nil _, trivial⟩
          · try simp only [zbA] at h15
            rw [hq] at h15
            have hek : AllIn q (rs.getD k.toNat rowD).xs := by
              rcases entC_cases q (rs.getD k.toNat rowD).xs with h | h
              · exact h.1
              · exact absurd h.2 (by omega)
            refine tr_skip ?_
            refine tr_region fun _ _ _ => ?_
            refine pu rfl rfl rfl rfl rfl ?_
            refine st rfl rfl rfl rfl (rAdd rfl rfl rfl (by omega) (by omega)) ?_
            refine pu rfl rfl rfl rfl rfl ?_
            refine ⟨k + 1, ⟨rfl, rfl, rfl, trivial⟩, by first | exact cs _ _ | exact CSub.refl _, ?_⟩
            refine ⟨⟨⟨by omega, by omega⟩, fun j hj => ?_⟩, by omega⟩
            by_cases he : (j : Int) = k
            · have : j = k.toNat := by omega
              subst this; exact hek
            · exact hall j (by omega)
        · try simp only [zbA] at h12
          refine tr_exit ?_
          refine tr_seq ?_
          refine tr_region fun _ _ _ => ?_
          refine pu rfl rfl rfl rfl rfl ?_
          have hwb : 0 ≤ w ∧ w ≤ 256 ∧ (xss rs).length ≤ 256 := by rw [xss_length]; omega
          have hall2 : ∀ r ∈ xss rs, AllIn q r := xss_get fun j hj => hall j (by omega)
          exact tr_ret ⟨trivial, _, _, rfl, ⟨by rw [rowsC_ok hwb hlen hall2], rfl⟩, CSub.nil _, trivial⟩
end Go.Proofs.YtgnmcoegdogfgaaGreat

set_option linter.unusedSimpArgs false
set_option linter.unusedVariables false
namespace Go.Proofs.YtgnmcoegdogfgaaGreat
open Go.RowKit
section
variable {K : Type} [Fd K]
def pv (f : Po K) : Vc K := fun j => Po.cf f j
theorem pv_at (f : Po K) (j : Nat) : pv f j = Po.cf f j := rfl
def CyW (n : Nat) (d : Po K) (u : Vc K) : Prop := ∃ f : Po K, (∀ j, u j = Po.cf f j) ∧ Po.Sh f n ∧ d ∣ f
theorem CyW.zero (n : Nat) (d : Po K) : CyW n d 0 := ⟨0, fun _ => rfl, fun _ _ => rfl, Po.dvd_zero d⟩
theorem CyW.plus {n : Nat} {d : Po K} {u v : Vc K} (hu : CyW n d u) (hv : CyW n d v) (c : K) : CyW n d (u + Vc.sc c v) := by
  obtain ⟨f, h1, h2, h3⟩ := hu
  obtain ⟨g, k1, k2, k3⟩ := hv
  refine ⟨f + Po.C c * g, fun j => ?_, h2.add (fun j hj => ?_), Po.dvd_add h3 (Po.dvd_mul_ofL k3 _)⟩
  · rw [Vc.add_at, Vc.sc_at, Po.cf_add, Po.cf_C_mul, h1, k1]
  · rw [Po.cf_C_mul, k2 j hj, Fd.mul_zero]
theorem CyW.sp {n : Nat} {d : Po K} {V : List (Vc K)} (h : ∀ r ∈ V, CyW n d r) {u : Vc K} (hu : Vc.SpL V u) : CyW n d u :=
  hu.lift (CyW.zero n d) fun u c r hu hr => hu.plus (h r hr) c
theorem CyW.eq {n : Nat} {d : Po K} {u : Vc K} {f : Po K} (h : CyW n d u) (hf : ∀ j, u j = Po.cf f j) : Po.Sh f n ∧ d ∣ f := by
  obtain ⟨g, h1, h2, h3⟩ := h
  have : g = f := Po.ext fun j => by rw [← h1, hf]
  exact this ▸ ⟨h2, h3⟩
theorem mem_getD {V : List (Vc K)} {r : Vc K} (h : r ∈ V) : ∃ i, i < V.length ∧ V.getD i 0 = r := by
  obtain ⟨i, hi, rfl⟩ := List.getElem_of_mem h
  exact ⟨i, hi, by rw [List.getD_eq_getElem?_getD, List.getElem?_eq_getElem hi]; rfl⟩
theorem getD_memV {V : List (Vc K)} {i : Nat} (h : i < V.length) : V.getD i 0 ∈ V := by
  rw [List.getD_eq_getElem?_getD, List.getElem?_eq_getElem h]; exact List.getElem_mem h
theorem span_shifts {n e : Nat} {d : Po K} (hd : Po.len d = e + 1) (hen : e ≤ n) {V : List (Vc K)} (hV : V.length = n - e) (hr : ∀ i, i < n - e → ∀ j, V.getD i 0 j = Po.cf (Po.mn 1 i * d) j) (u : Vc K) : Vc.SpL V u ↔ CyW n d u := by
  constructor
  · refine CyW.sp fun r hr' => ?_
    obtain ⟨i, hi, rfl⟩ := mem_getD hr'
    refine ⟨Po.mn 1 i * d, hr i (by omega), ?_, Po.dvd_mulL d _⟩
    have := Po.Sh.mul (Po.mn_sh (1 : K) i) (hd ▸ Po.len_sh d)
    exact this.mono (by omega)
  · rintro ⟨f, hu, hf, h, rfl⟩
    have hd0 : d ≠ 0 := Po.len_pos_iff.1 (by omega)
    have key : ∀ (k : Nat) (h : Po K), k ≤ n - e → Po.Sh h k → ∀ v : Vc K, (∀ j, v j = Po.cf (d * h) j) → Vc.SpL V v := by
      intro k
      induction k with
      | zero =>
        intro h _ hs v hv
        have h0 : h = 0 := Po.ext fun j => hs j (Nat.zero_le j)
        have : v = 0 := Vc.ext fun j => by rw [hv, h0, Rg.mul_zero]; rfl
        rw [this]; exact Vc.Sp.zero
      | succ k ih =>
        intro h hk hs v hv
        have hs' : Po.Sh (h - Po.mn (Po.cf h k) k) k := fun j hj => by
          rw [Po.cf_sub, Po.cf_mn]
          by_cases hjk : j = k
          · rw [if_pos hjk, hjk, Rg.sub_self]
          · rw [if_neg hjk, hs j (by omega), Rg.sub_self]
        have h1 := ih (h - Po.mn (Po.cf h k) k) (by omega) hs' (pv (d * (h - Po.mn (Po.cf h k) k))) (fun _ => rfl)
        have h2 := Vc.Sp.add (Po.cf h k) h1 (getD_memV (V := V) (i := k) (by omega))
        have : v = pv (d * (h - Po.mn (Po.cf h k) k)) + Vc.sc (Po.cf h k) (V.getD k 0) := Vc.ext fun j => by
          rw [Vc.add_at, Vc.sc_at, pv_at, hr k (by omega), hv, ← Po.cf_C_mul, ← Po.cf_add]
          congr 1
          have : Po.mn (Po.cf h k) k = Po.C (Po.cf h k) * Po.mn 1 k := by
            have := Po.mn_mul (Po.cf h k) 1 0 k
            rw [Rg.mul_one, Nat.zero_add] at this
            exact this.symm
          rw [this]
          grind
        rw [this]; exact h2
    refine key (n - e) h (Nat.le_refl _) (fun j hj => ?_) u hu
    by_cases h0 : h = 0
    · rw [h0]; rfl
    · refine Po.cf_ge (Nat.le_trans ?_ hj)
      have h1 := Po.len_mul hd0 h0
      have h2 := Po.len_le hf
      omega
end
section
variable {p m : Int} {mod : List Int} [hF : IsF p m mod]
end
section
variable {K : Type} [Fd K]
def shfs (n e : Nat) (d : Po K) : List (Vc K) := (List.range (n - e)).map fun i => pv (Po.mn 1 i * d)
theorem shfs_length (n e : Nat) (d : Po K) : (shfs n e d).length = n - e := by simp [shfs]
theorem shfs_at {n e : Nat} {d : Po K} {i : Nat} (hi : i < n - e) (j : Nat) : (shfs n e d).getD i 0 j = Po.cf (Po.mn 1 i * d) j := by
  unfold shfs
  rw [List.getD_eq_getElem?_getD, List.getElem?_map, List.getElem?_range hi]
  rfl
theorem shfs_indep {n e : Nat} {d : Po K} (hd : Po.len d = e + 1) : ¬ Vc.Dep (shfs n e d) := fun ⟨c, ⟨i, hi, hc⟩, h0⟩ => by
  rw [shfs_length] at hi
  have key : ∀ t i : Nat, i < n - e → n - e ≤ i + t → c i = 0 := by
    intro t
    induction t with
    | zero => intro i hi ht; omega
    | succ t ih =>
      intro i hi ht
      have h1 := congrFun h0 (i + e)
      rw [Vc.cmb_at _ 0, shfs_length, Rg.sm_one (k := i) hi (fun k hk hne => by
        rw [shfs_at hk, Po.cf_mn_mul]
        rcases Nat.lt_or_gt_of_ne hne with h | h
        · rw [if_neg (by omega), Po.cf_ge (by omega), Fd.mul_zero, Fd.mul_zero]
        · rw [ih k hk (by omega), Fd.zero_mul]), shfs_at hi, Po.cf_mn_mul, if_neg (by omega), Rg.one_mul, show i + e - i = e by omega] at h1
      exact (Fd.mul_eq_zero h1).resolve_right (Po.lead_ne hd)
  exact hc (key (n - e) i hi (by omega))
theorem cyc_dim {n e : Nat} {d : Po K} (hd : Po.len d = e + 1) (hen : e ≤ n) {R : List (Vc K)} {ps : List Nat} (h : Vc.Rr n R ps) (hs : ∀ u, Vc.SpL R u ↔ CyW n d u) : R.length = n - e := by
  rw [h.dim (shfs_indep (n := n) hd) fun u => (hs u).trans (span_shifts hd hen (shfs_length n e d) (fun i hi j => shfs_at hi j) u).symm, shfs_length]
end
end Go.Proofs.YtgnmcoegdogfgaaGreat

set_option linter.unusedSimpArgs false
set_option linter.unusedVariables false
namespace Go.Proofs.YtgnmcoegdogfgaaGreat
open Go.RowKit
theorem getD_app1 {α : Type} (l : List α) (x d : α) (j : Nat) : (l ++ [x]).getD j d = if j = l.length then x else l.getD j d := by
  rw [List.getD_eq_getElem?_getD, List.getD_eq_getElem?_getD]
  by_cases h : j = l.length
  · subst h; simp
  · rw [if_neg h]
    rcases Nat.lt_or_gt_of_ne h with h | h
    · rw [List.getElem?_append_left h]
    · rw [List.getElem?_eq_none (by simp; omega), List.getElem?_eq_none (by omega)]
theorem Gd.nil (q : Int) (w : Nat) : Gd q w [] := fun r hr => by simp at hr
theorem Gd.app {q : Int} {w : Nat} {rs qs : List RowM} (h : Gd q w rs) (k : Gd q w qs) : Gd q w (rs ++ qs) := fun s hs => (List.mem_append.1 hs).elim (h s) (k s)
theorem xss_snoc (rs : List RowM) (r : RowM) : xss (rs ++ [r]) = xss rs ++ [r.xs] := by simp [xss]
theorem xss_getD (rs : List RowM) (j : Nat) : (xss rs).getD j [] = (rs.getD j rowD).xs := by
  rw [List.getD_eq_getElem?_getD, List.getD_eq_getElem?_getD, xss, List.getElem?_map]
  cases rs[j]? <;> rfl
theorem Gd.xss {q : Int} {w : Nat} {rs qs : List RowM} (h : Gd q w rs) (he : xss rs = xss qs) : Gd q w qs := Gd.of (rs := rs) (qs := qs) he.symm h
section
variable {p m : Int} {mod : List Int} [hF : IsF p m mod]
theorem vsR_xss (rs : List RowM) : (vsR rs : List (Vc (El p m mod))) = (xss rs).map rw' := by simp [vsR, xss]
theorem rw_inj2 {a b : List Int} (ha : AllIn (pw p m) a) (hb : AllIn (pw p m) b) (hl : a.length = b.length) (h : (rw' a : Vc (El p m mod)) = rw' b) : a = b := ext_getD hl fun j => by
  have hq := hF.q2
  exact el_inj (p := p) (m := m) (mod := mod) (ha.get (by omega) j) (hb.get (by omega) j) (congrFun h j)
theorem rows_inj {w : Nat} {rs qs : List RowM} (h1 : Gd (pw p m) w rs) (h2 : Gd (pw p m) w qs) (h : (vsR rs : List (Vc (El p m mod))) = vsR qs) : xss rs = xss qs := by
  have hl : rs.length = qs.length := by have := congrArg List.length h; simpa using this
  refine List.ext_getElem (by simpa using hl) fun j h3 h4 => ?_
  have h3' : j < rs.length := by simpa using h3
  have h4' : j < qs.length := by simpa using h4
  have e := congrArg (fun l => l.getD j 0) h
  simp only [vsR_get] at e
  have a := h1.get h3'
  have b := h2.get h4'
  have := rw_inj2 a.2 b.2 (a.1.trans b.1.symm) e
  rw [← xss_getD, ← xss_getD, List.getD_eq_getElem?_getD, List.getD_eq_getElem?_getD, List.getElem?_eq_getElem h3, List.getElem?_eq_getElem h4] at this
  exact this
end
structure CdOf (p m : Int) (mod : List Int) [hF : IsF p m mod] (w : Nat) (rs : List RowM) (W : Vc (El p m mod) → Prop) : Prop where
  good : Gd (pw p m) w rs
  form : ∃ qs, Vc.Rr w (vsR rs : List (Vc (El p m mod))) qs
  span : ∀ u, Vc.SpL (vsR rs : List (Vc (El p m mod))) u ↔ W u
section
variable {p m : Int} {mod : List Int} [hF : IsF p m mod] {w : Nat} {rs qs r3 : List RowM} {W W' : Vc (El p m mod) → Prop}
theorem CdOf.uniq (h : CdOf p m mod w rs W) (k : CdOf p m mod w qs W) : xss rs = xss qs := by
  obtain ⟨a, ha⟩ := h.form
  obtain ⟨b, hb⟩ := k.form
  exact rows_inj h.good k.good (ha.uniq hb fun u => (h.span u).trans (k.span u).symm).1
theorem CdOf.iff (h : CdOf p m mod w rs W) (hi : ∀ u, W u ↔ W' u) : CdOf p m mod w rs W' := ⟨h.good, h.form, fun u => (h.span u).trans (hi u)⟩
theorem CdOf.eq (h : CdOf p m mod w rs W) (k : CdOf p m mod w qs W') (hi : ∀ u, W u ↔ W' u) : xss rs = xss qs := (h.iff hi).uniq k
theorem RrOf.cd {ps : List Int} (h : RrOf p m mod w rs r3 ps) (hi : ∀ u, Vc.SpL (vsR rs) u ↔ W u) : CdOf p m mod w r3 W := by
  obtain ⟨qs, _, hq⟩ := h.form
  exact ⟨h.good, ⟨qs, hq⟩, fun u => (h.span u).trans (hi u)⟩
theorem CdOf.xss (h : CdOf p m mod w rs W) (he : xss rs = xss qs) : CdOf p m mod w qs W := by
  have hv : (vsR rs : List (Vc (El p m mod))) = vsR qs := by rw [vsR_xss, vsR_xss, he]
  refine ⟨h.good.xss he, ?_, fun u => ?_⟩
  · rw [← hv]; exact h.form
  · rw [← hv]; exact h.span u
theorem Rr_le {K : Type} [Fd K] {n : Nat} {R : List (Vc K)} {ps : List Nat} (h : Vc.Rr n R ps) : R.length ≤ n := by
  rw [← h.len]
  have key : ∀ k : Nat, k < ps.length → k ≤ ps.getD k 0 := by
    intro k
    induction k with
    | zero => intro _; omega
    | succ k ih => intro hk; have := ih (by omega); have := h.rise k (k + 1) (by omega) hk; omega
  rcases Nat.eq_zero_or_pos ps.length with h0 | h0
  · omega
  · have := key (ps.length - 1) (by omega); have := h.lt (ps.length - 1) (by omega); omega
theorem CdOf.le (h : CdOf p m mod w rs W) : rs.length ≤ w := by
  obtain ⟨a, ha⟩ := h.form
  have := Rr_le ha
  simpa using this
end
def formP (p m : Int) (mod : List Int) [hF : IsF p m mod] (w : Nat) (rs : List RowM) : Prop := ∃ qs, Vc.Rr w (vsR rs : List (Vc (El p m mod))) qs
section
variable {p m : Int} {mod : List Int} [hF : IsF p m mod] {w : Nat} {rs r3 : List RowM}
theorem RrOf.form_iff {ps : List Int} (h : RrOf p m mod w rs r3 ps) (hg : Gd (pw p m) w rs) : xss r3 = xss rs ↔ formP p m mod w rs := by
  obtain ⟨qs, _, hq⟩ := h.form
  constructor
  · intro he
    refine ⟨qs, ?_⟩
    have hv : (vsR r3 : List (Vc (El p m mod))) = vsR rs := by rw [vsR_xss, vsR_xss, he]
    rw [← hv]; exact hq
  · rintro ⟨q2, h2⟩
    exact rows_inj h.good hg (hq.uniq h2 h.span).1
end
open Classical in
noncomputable def codC (p m : Int) (mod : List Int) (n : Int) (rs : List RowM) : Int :=
  if h : FldR p m mod then if n < 1 ∨ n > 64 then 4 else if rowsC (pw p m) n (xss rs) ≠ 0 then rowsC (pw p m) n (xss rs) else if @formP p m mod ⟨h⟩ n.toNat rs then 0 else 5 else 1
theorem codC_no {p m : Int} {mod : List Int} (n : Int) (rs : List RowM) (h : ¬ FldR p m mod) : codC p m mod n rs = 1 := by unfold codC; rw [dif_neg h]
section
variable {p m : Int} {mod : List Int} [hF : IsF p m mod] {n : Int} {rs : List RowM}
theorem codC_ln (hb : n < 1 ∨ n > 64) : codC p m mod n rs = 4 := by unfold codC; rw [dif_pos hF.out, if_pos hb]
theorem codC_rw (hb : ¬ (n < 1 ∨ n > 64)) (h : rowsC (pw p m) n (xss rs) ≠ 0) : codC p m mod n rs = rowsC (pw p m) n (xss rs) := by unfold codC; rw [dif_pos hF.out, if_neg hb, if_pos h]
theorem codC_fm (hb : ¬ (n < 1 ∨ n > 64)) (h : rowsC (pw p m) n (xss rs) = 0) (hf : ¬ formP p m mod n.toNat rs) : codC p m mod n rs = 5 := by unfold codC; rw [dif_pos hF.out, if_neg hb, if_neg (by omega), if_neg hf]
theorem codC_ok (hb : ¬ (n < 1 ∨ n > 64)) (h : rowsC (pw p m) n (xss rs) = 0) (hf : formP p m mod n.toNat rs) : codC p m mod n rs = 0 := by unfold codC; rw [dif_pos hF.out, if_neg hb, if_neg (by omega), if_pos hf]
theorem rowsC_Gd (h : rowsC (pw p m) n (xss rs) = 0) : Gd (pw p m) n.toNat rs ∧ 0 ≤ n ∧ n ≤ 256 ∧ rs.length ≤ 256 := by
  obtain ⟨h1, h2, h3⟩ := rowsC_zero h
  rw [xss_length] at h1
  exact ⟨(Gd_iff h1.1).2 ⟨h2, h3⟩, h1.1, h1.2.1, by omega⟩
end
structure CodeOk (p m : Int) (mod : List Int) [hF : IsF p m mod] (n : Int) (rs : List RowM) : Prop where
  n1 : 1 ≤ n
  n64 : n ≤ 64
  row : rowsC (pw p m) n (xss rs) = 0
  good : Gd (pw p m) n.toNat rs
  form : formP p m mod n.toNat rs
theorem CodeOk.cd {p m : Int} {mod : List Int} [hF : IsF p m mod] {n : Int} {rs : List RowM} (h : CodeOk p m mod n rs) : CdOf p m mod n.toNat rs (Vc.SpL (vsR rs)) := ⟨h.good, h.form, fun _ => Iff.rfl⟩
theorem CodeOk.len {p m : Int} {mod : List Int} [hF : IsF p m mod] {n : Int} {rs : List RowM} (h : CodeOk p m mod n rs) : rs.length ≤ 64 := by have := h.cd.le; have := h.n64; omega
theorem CodeOk.zero {p m : Int} {mod : List Int} [hF : IsF p m mod] {n : Int} {rs : List RowM} (h : CodeOk p m mod n rs) : codC p m mod n rs = 0 := codC_ok (by have := h.n1; have := h.n64; omega) h.row h.form
theorem CdOf.ok {p m : Int} {mod : List Int} [hF : IsF p m mod] {n : Int} {rs : List RowM} {W : Vc (El p m mod) → Prop} (h : CdOf p m mod n.toNat rs W) (h1 : 1 ≤ n) (h2 : n ≤ 64) : CodeOk p m mod n rs :=
  ⟨h1, h2, rowsC_ok (by rw [xss_length]; have := h.le; omega) ((Gd_iff (by omega)).1 h.good).1 ((Gd_iff (by omega)).1 h.good).2, h.good, h.form⟩
def shR (n : Nat) (gen : List Int) (k : Nat) : List Int := (List.replicate n 0).take k ++ gen.take (min gen.length (n - k)) ++ (List.replicate n 0).drop (k + min gen.length (n - k))
theorem shR_def (n : Nat) (gen : List Int) (k : Nat) : (List.replicate n 0).take k ++ gen.take (min gen.length (n - k)) ++ (List.replicate n 0).drop (k + min gen.length (n - k)) = shR n gen k := rfl
theorem shR_eq {n k : Nat} {gen : List Int} (h : k + gen.length ≤ n) : shR n gen k = List.replicate k 0 ++ gen ++ List.replicate (n - (k + gen.length)) 0 := by
  unfold shR
  rw [show min gen.length (n - k) = gen.length by omega, List.take_length, List.take_replicate, List.drop_replicate, show min k n = k by omega]
theorem shR_length {n k : Nat} {gen : List Int} (h : k + gen.length ≤ n) : (shR n gen k).length = n := by rw [shR_eq h]; simp; omega
theorem shR_in {q : Int} (hq : 1 ≤ q) {n k : Nat} {gen : List Int} (h : k + gen.length ≤ n) (hg : AllIn q gen) : AllIn q (shR n gen k) := fun c hc => by
  rw [shR_eq h] at hc
  rcases List.mem_append.1 hc with hc | hc
  · rcases List.mem_append.1 hc with hc | hc
    · rw [List.eq_of_mem_replicate hc]; omega
    · exact hg c hc
  · rw [List.eq_of_mem_replicate hc]; omega
theorem shR_getD {n k : Nat} {gen : List Int} (h : k + gen.length ≤ n) (j : Nat) : (shR n gen k).getD j 0 = if j < k then 0 else gen.getD (j - k) 0 := by
  rw [shR_eq h, List.getD_eq_getElem?_getD, List.getD_eq_getElem?_getD]
  by_cases h1 : j < k
  · rw [if_pos h1, List.append_assoc, List.getElem?_append_left (by simpa using h1)]
    simp [h1]
  · rw [if_neg h1, List.append_assoc, List.getElem?_append_right (by simp; omega), List.length_replicate]
    by_cases h2 : j - k < gen.length
    · rw [List.getElem?_append_left h2]
    · rw [List.getElem?_append_right (by omega), List.getElem?_eq_none (l := gen) (by omega), List.getElem?_replicate]
      split <;> rfl
section
variable {p m : Int} {mod : List Int} [hF : IsF p m mod]
theorem shR_cf {n k : Nat} {d : Po (El p m mod)} (h : k + (il d).length ≤ n) (j : Nat) : (rw' (shR n (il d) k) : Vc (El p m mod)) j = Po.cf (Po.mn 1 k * d) j := by
  rw [rw_at, shR_getD h, Po.cf_mn_mul]
  split
  · exact el_zero
  · rw [il_getD, el_of, Rg.one_mul]
end
end Go.Proofs.YtgnmcoegdogfgaaGreat

set_option linter.unusedSimpArgs false
set_option linter.unusedVariables false
namespace Go.Proofs.YtgnmcoegdogfgaaGreat
open Go.RowKit
namespace Vc
variable {K : Type} [Fd K]
def upC (c : Nat → K) (k : Nat) : Nat → K := fun i => if i < k then c i else 0
theorem cmb_congr {c d : Nat → K} {V : List (Vc K)} (h : ∀ i, i < V.length → c i = d i) : cmb c V = cmb d V := ext fun j => by
  rw [cmb_at _ 0, cmb_at _ 0]
  exact Rg.sm_congr fun i hi => by rw [h i hi]
theorem cmb_up_zero (c : Nat → K) (V : List (Vc K)) : cmb (upC c 0) V = 0 := by
  rw [← cmb_zero V]; exact cmb_congr fun i _ => by unfold upC; rw [if_neg (by omega)]
theorem cmb_up_succ (c : Nat → K) {V : List (Vc K)} {k : Nat} (hk : k < V.length) : cmb (upC c (k + 1)) V = cmb (upC c k) V + sc (c k) (V.getD k 0) := by
  rw [← cmb_unit 0 V k hk, ← cmb_sc, ← cmb_add]
  refine cmb_congr fun i _ => ?_
  unfold upC
  rcases Nat.lt_trichotomy i k with h | h | h
  · rw [if_pos (by omega), if_pos h, if_neg (by omega), Fd.mul_zero, Fd.add_zero]
  · rw [if_pos (by omega), if_neg (by omega), if_pos h, Fd.mul_one, Rg.zero_add, h]
  · rw [if_neg (by omega), if_neg (by omega), if_neg (by omega), Fd.mul_zero, Fd.add_zero]
theorem cmb_up_all (c : Nat → K) {V : List (Vc K)} {k : Nat} (hk : V.length ≤ k) : cmb (upC c k) V = cmb c V := cmb_congr fun i hi => by unfold upC; rw [if_pos (by omega)]
theorem Rr.mem_iff {n : Nat} {R : List (Vc K)} {ps : List Nat} (h : Rr n R ps) (u : Vc K) : SpL R u ↔ u - cmb (fun i => u (ps.getD i 0)) R = 0 := by
  constructor
  · intro hu
    have := h.eq hu
    exact ext fun j => by rw [sub_at, ← this]; exact Rg.sub_self _
  · intro h0
    have : u = cmb (fun i => u (ps.getD i 0)) R := ext fun j => by
      have := congrFun h0 j
      exact Rg.eq_of_sub this
    rw [this]; exact cmb_sp _ R
end Vc
section
variable {p m : Int} {mod : List Int} [hF : IsF p m mod]
end
end Go.Proofs.YtgnmcoegdogfgaaGreat

set_option linter.unusedSimpArgs false
set_option linter.unusedVariables false
namespace Go.Proofs.YtgnmcoegdogfgaaGreat
open Go.RowKit
def pvI (m j : Nat) : Nat := j / m * m + (j % m + (m - 1)) % m
def shF (m : Nat) (l : List Int) : List Int := (List.range l.length).map fun j => l.getD (pvI m j) 0
@[simp] theorem shF_length (m : Nat) (l : List Int) : (shF m l).length = l.length := by simp [shF]
section
variable {p m : Int} {mod : List Int} [hF : IsF p m mod] {k : Nat} {rs : List RowM}
end
section
variable {K : Type} [Fd K]
end
section
variable {p m : Int} {mod : List Int} [hF : IsF p m mod]
end
end Go.Proofs.YtgnmcoegdogfgaaGreat

set_option linter.unusedSimpArgs false
set_option linter.unusedVariables false
namespace Go.Proofs.YtgnmcoegdogfgaaGreat
open Go.RowKit
section
variable {p m : Int} {mod : List Int} [hF : IsF p m mod]
end
end Go.Proofs.YtgnmcoegdogfgaaGreat

set_option linter.unusedSimpArgs false
set_option linter.unusedVariables false
namespace Go.Proofs.YtgnmcoegdogfgaaGreat
open Go.RowKit
section
variable {p m : Int} {mod : List Int} [hF : IsF p m mod]
theorem vsR_mem {rs : List RowM} {r : RowM} (hr : r ∈ rs) : (rw' r.xs : Vc (El p m mod)) ∈ (vsR rs : List (Vc (El p m mod))) := List.mem_map.2 ⟨r, hr, rfl⟩
theorem cyw_pv {n : Nat} {d f : Po (El p m mod)} (hf : Po.Sh f n) (h : d ∣ f) : CyW n d (pv f) := ⟨f, fun _ => rfl, hf, h⟩
theorem CyW.mon {n : Nat} {d : Po (El p m mod)} (u : Vc (El p m mod)) : CyW n (Po.mon d) u ↔ CyW n d u := by
  constructor
  · rintro ⟨f, h1, h2, h3⟩; exact ⟨f, h1, h2, Po.dvd_trans (Po.dvd_mon d) h3⟩
  · rintro ⟨f, h1, h2, h3⟩; exact ⟨f, h1, h2, Po.dvd_trans (Po.mon_dvd d) h3⟩
end
end Go.Proofs.YtgnmcoegdogfgaaGreat

set_option linter.unusedSimpArgs false
set_option linter.unusedVariables false
namespace Go.Proofs.YtgnmcoegdogfgaaGreat
open Go.RowKit
section
variable {R : Type} [Rg R]
theorem nc_add (a : Nat) : ∀ b : Nat, (Rg.nc (a + b) : R) = Rg.nc a + Rg.nc b
  | 0 => (Rg.add_zero _).symm
  | b + 1 => by rw [← Nat.add_assoc, Rg.nc_succ, Rg.nc_succ, nc_add a b, Rg.add_assoc]
end
section
variable {K : Type} [Fd K]
end
section
variable {p m : Int} {mod : List Int} [hF : IsF p m mod]
theorem nc_val (k : Nat) : (Rg.nc k : El p m mod).1 = (k : Int) % p := by
  have hp := hF.out.1.1.p2
  have hm := hF.out.1.1.m1
  induction k with
  | zero => exact (Int.zero_emod p).symm
  | succ k ih =>
    rw [Rg.nc_succ, add_val, ih, one_val, addI_rec, show m.toNat = (m.toNat - 1) + 1 by omega, addD]
    have h1 := Int.emod_nonneg (k : Int) (show p ≠ 0 by omega)
    have h2 := Int.emod_lt_of_pos (k : Int) (show 0 < p by omega)
    rw [Int.ediv_eq_zero_of_lt h1 h2, Int.ediv_eq_zero_of_lt (show (0 : Int) ≤ 1 by omega) (show 1 < p by omega), addD_zero, Int.mul_zero, Int.add_zero, Int.emod_emod_of_dvd _ (Int.dvd_refl p), ← Int.add_emod]
    push_cast
    rfl
end
end Go.Proofs.YtgnmcoegdogfgaaGreat

set_option linter.unusedSimpArgs false
set_option linter.unusedVariables false
namespace Go.Proofs.YtgnmcoegdogfgaaGreat
open Go.RowKit
theorem nc_mul {R : Type} [Rg R] (a : Nat) : ∀ b : Nat, (Rg.nc (a * b) : R) = Rg.nc a * Rg.nc b
  | 0 => (Rg.mul_zero _).symm
  | b + 1 => by rw [Nat.mul_succ, nc_add, Rg.nc_succ, nc_mul a b, Rg.mul_add, Rg.mul_one]
theorem IsF.p2 {p m : Int} {mod : List Int} (hF : IsF p m mod) : 2 ≤ p := hF.out.1.1.p2
theorem IsF.m1 {p m : Int} {mod : List Int} (hF : IsF p m mod) : 1 ≤ m := hF.out.1.1.m1
theorem zi_nat {p : Int} (hp : 2 ≤ p) (z : Int) : (((z % p).toNat : Nat) : Int) = z % p := Int.toNat_of_nonneg (Int.emod_nonneg _ (by omega))
section
variable {p m : Int} {mod : List Int} [hF : IsF p m mod]
theorem nc_emod {a b : Nat} (h : (a : Int) % p = (b : Int) % p) : (Rg.nc a : El p m mod) = Rg.nc b := El.ext (by rw [nc_val, nc_val, h])
noncomputable def zi (z : Int) : El p m mod := Rg.nc (z % p).toNat
theorem zi_val (z : Int) : (zi z : El p m mod).1 = z % p := by
  unfold zi; rw [nc_val, zi_nat hF.p2, Int.emod_emod_of_dvd _ (Int.dvd_refl p)]
theorem zi_add (x y : Int) : (zi (x + y) : El p m mod) = zi x + zi y := by
  unfold zi
  rw [← nc_add]
  refine nc_emod ?_
  push_cast
  rw [zi_nat hF.p2, zi_nat hF.p2, zi_nat hF.p2, Int.emod_emod_of_dvd _ (Int.dvd_refl p), ← Int.add_emod]
theorem zi_mul (x y : Int) : (zi (x * y) : El p m mod) = zi x * zi y := by
  unfold zi
  rw [← nc_mul]
  refine nc_emod ?_
  push_cast
  rw [zi_nat hF.p2, zi_nat hF.p2, zi_nat hF.p2, Int.emod_emod_of_dvd _ (Int.dvd_refl p), ← Int.mul_emod]
theorem zi_cg {x y : Int} (h : x % p = y % p) : (zi x : El p m mod) = zi y := by unfold zi; rw [h]
theorem zi_zero : (zi 0 : El p m mod) = 0 := by unfold zi; rw [Int.zero_emod]; rfl
theorem zi_one : (zi 1 : El p m mod) = 1 := by
  have := hF.p2
  unfold zi; rw [Int.emod_eq_of_lt (by omega) (by omega)]; rfl
theorem zi_neg (x : Int) : (zi (-1 * x) : El p m mod) = -zi x := by
  have h : (zi (-1) : El p m mod) + 1 = 0 := by rw [← zi_one, ← zi_add]; exact zi_zero
  rw [zi_mul]
  have e : (zi (-1) : El p m mod) = -1 := by grind
  rw [e, Rg.neg_mul, Rg.one_mul]
theorem zi_el {z : Int} (h0 : 0 ≤ z) (h1 : z < p) : (zi z : El p m mod) = el z := El.ext (by
  have hq : p ≤ pw p m := by
    have h2 := hF.p2
    have := pw_mono (p := p) (by omega) (a := 1) (b := m) (by omega) hF.m1
    have h3 := pw_succ p (k := 0) (by omega)
    rw [pw_zero, Int.zero_add, Int.one_mul] at h3
    omega
  rw [zi_val, Int.emod_eq_of_lt h0 h1, el_in ⟨h0, by omega⟩])
noncomputable def zp (n : Nat) (c : Row) : Po (El p m mod) := ⟨fun j => if j < n then zi (c j) else 0, n, fun j hj => if_neg (by omega)⟩
theorem cf_zp (n : Nat) (c : Row) (j : Nat) : Po.cf (zp n c : Po (El p m mod)) j = if j < n then zi (c j) else 0 := rfl
theorem zp_sh (n : Nat) (c : Row) : Po.Sh (zp n c : Po (El p m mod)) n := fun j hj => if_neg (by omega)
theorem zp_cg {c d : Row} (n : Nat) (h : Cg p c d) : (zp n c : Po (El p m mod)) = zp n d := Po.ext fun j => by
  rw [cf_zp, cf_zp]
  split
  · exact zi_cg (h.emod j)
  · rfl
theorem zp_pl {e : Nat} {G : Row} (hG : Sup (e + 1) G) (Q : Row) : ∀ n N : Nat, n + e ≤ N → (zp N (pl sh n Q G) : Po (El p m mod)) = zp n Q * zp (e + 1) G
  | 0, N, _ => by
    have h1 : (zp N (pl sh 0 Q G) : Po (El p m mod)) = 0 := Po.ext fun j => by
      rw [cf_zp]
      have : pl sh 0 Q G j = 0 := rfl
      rw [this, zi_zero]; split <;> rfl
    have h2 : (zp 0 Q : Po (El p m mod)) = 0 := Po.ext fun j => by rw [cf_zp, if_neg (by omega)]; rfl
    rw [h1, h2, Rg.zero_mul]
  | n + 1, N, h => by
    have h1 : (zp (n + 1) Q : Po (El p m mod)) = zp n Q + Po.mn (zi (Q n)) n := Po.ext fun j => by
      rw [Po.cf_add, cf_zp, cf_zp, Po.cf_mn]
      by_cases h2 : j = n
      · rw [if_pos (by omega), if_neg (by omega), if_pos h2, h2, Rg.zero_add]
      · rw [if_neg h2, Rg.add_zero]
        by_cases h3 : j < n
        · rw [if_pos (by omega), if_pos h3]
        · rw [if_neg (by omega), if_neg h3]
    rw [h1, Rg.add_mul, ← zp_pl hG Q n N (by omega)]
    refine Po.ext fun j => ?_
    rw [Po.cf_add, cf_zp, cf_zp, Po.cf_mn_mul, cf_zp]
    have h2 : pl sh (n + 1) Q G j = pl sh n Q G j + Q n * it sh n G j := rfl
    rw [h2, it_sh]
    by_cases h3 : j < N
    · rw [if_pos h3, if_pos h3, zi_add, zi_mul]
      congr 1
      by_cases h4 : j < n
      · rw [if_pos h4, if_pos h4, zi_zero, Rg.mul_zero]
      · rw [if_neg h4, if_neg h4]
        by_cases h5 : j - n < e + 1
        · rw [if_pos h5]
        · rw [if_neg h5, hG _ (by omega), zi_zero]
    · rw [if_neg h3, if_neg h3, if_neg (by omega), if_neg (by omega), Rg.mul_zero, Rg.zero_add]
theorem all_pow (a : El p m mod) : Rg.pow a (pw p m).toNat = a := by
  have hq := hF.q2
  by_cases h : a = 0
  · rw [h]; exact Rg.zero_pow (by omega)
  · have h1 := Fd.Nz.pow (elNz_nz hF.out) h
    rw [elNz_len, Fd.pow_eq] at h1
    have e : (pw p m).toNat = (pw p m - 1).toNat + 1 := by omega
    rw [e, Rg.pow_succ]
    exact (congrArg (fun z => z * a) h1).trans (Rg.one_mul a)
theorem pow_last {x : El p m mod} (hx : x ≠ 0) : Rg.pow x (pw p m - 1).toNat = 1 := by
  have h1 := Fd.Nz.pow (elNz_nz hF.out) hx
  rw [elNz_len, Fd.pow_eq] at h1
  exact h1
theorem all_powk (a : El p m mod) : ∀ k : Nat, Rg.pow a ((pw p m).toNat ^ k) = a
  | 0 => Rg.pow_one a
  | k + 1 => by rw [Nat.pow_succ, Rg.pow_mul, all_powk a k, all_pow]
end
theorem roots_len {K : Type} [Fd K] : ∀ (rs : List K) (f : Po K), rs.Nodup → f ≠ 0 → (∀ a ∈ rs, Po.val f a = 0) → rs.length < Po.len f
  | [], f, _, hf, _ => Po.len_pos hf
  | r :: rs, f, hn, hf, h => by
    obtain ⟨g, hg⟩ := (Po.root_iff f r).1 (h r (List.mem_cons_self ..))
    have hn := List.nodup_cons.1 hn
    have hg0 : g ≠ 0 := fun e => hf (by rw [hg, e, Rg.mul_zero])
    have ih := roots_len rs g hn.2 hg0 (fun a ha => by
      have h1 := h a (List.mem_cons_of_mem _ ha)
      rw [hg, Po.val_mul, Po.val_lin] at h1
      exact (Fd.mul_eq_zero h1).resolve_left (fun e => hn.1 (by have : a = r := Rg.eq_of_sub e; rwa [← this])))
    rw [hg, Po.len_mul (Po.lin_ne r) hg0, Po.len_lin, List.length_cons]
    omega
theorem pl_e0 (T : Row → Row) (v : Row) : pl T 1 (ee 0) v = v := by
  have h : pl T 1 (ee 0) v = Row.z.add (Row.sm 1 v) := rfl
  rw [h, Row.z_add]; funext j; simp [Row.sm]
theorem ee_sup (k : Nat) : Sup (k + 1) (ee k) := fun j hj => if_neg (by omega)
theorem pl_ee {T : Row → Row} (h : Lin T) {k n : Nat} (hk : k < n) (v : Row) : pl T n (ee k) v = it T k v := by
  have h1 := pl_it_sh h 1 (ee 0) v k
  rw [it_sh_e, pl_e0] at h1
  rw [pl_bound' (ee_sup k) v (show k + 1 ≤ n by omega), Nat.add_comm k 1, h1]
theorem add_neg_z (u : Row) : u.add (Row.sm (-1) u) = Row.z := by funext j; simp [Row.add, Row.sm, Row.z]; omega
section
variable {p m : Int} {mod : List Int} [hF : IsF p m mod]
theorem tt_ex (hm : 2 ≤ m) : ∃ t : El p m mod, ∀ n, Cg p (dg p m.toNat (Rg.pow t n).1) (it (tm m.toNat (rl mod)) n (ee 0)) := by
  have hp := hF.p2
  have hs := hF.out.1.1
  have hsu : Sup m.toNat (ee 1) := fun j hj => if_neg (by omega)
  have hbd : 0 ≤ rv p m.toNat (ee 1) ∧ rv p m.toNat (ee 1) < pw p m := rv_bd hp _ _
  obtain ⟨t, ht1⟩ : ∃ t : El p m mod, t.1 = rv p m.toNat (ee 1) := ⟨⟨_, hbd⟩, rfl⟩
  refine ⟨t, fun n => ?_⟩
  induction n with
  | zero => rw [Rg.pow_zero, one_val, dg_one hp (by omega)]; exact Cg.refl _ _
  | succ n ih =>
    rw [Rg.pow_succ, mul_val, ht1]
    refine Cg.trans (mulI_cg hs _ _) ?_
    refine Cg.trans (rm_cg ih (dg_rv_cg hp hsu)) (Cg.of_eq ?_)
    show pl (tm m.toNat (rl mod)) m.toNat (ee 1) (it (tm m.toNat (rl mod)) n (ee 0)) = _
    rw [pl_ee (tm_lin _ _) (by omega)]
    rfl
theorem emb_fac (hm : 2 ≤ m) {N k : Nat} (hN : N = (pw p m).toNat ^ k) (hNm : m.toNat ≤ N) (hN2 : 2 ≤ N) : ∃ (Q : Row) (n : Nat), n + m.toNat = N + 1 ∧ Cg p ((ee N).add (Row.sm (-1) (ee 1))) (pl sh n Q (gF mod)) := by
  have hp := hF.p2
  have hs := hF.out.1.1
  have hml : mod.length = m.toNat := by
    rcases hs.low with h | h
    · omega
    · omega
  obtain ⟨t, ht⟩ := tt_ex (p := p) (m := m) (mod := mod) hm
  obtain ⟨lst, hll, hl⟩ : ∃ lst : List Int, lst.length = N + 1 ∧ Cg p ((ee N).add (Row.sm (-1) (ee 1))) (rl lst) := by
    refine ⟨(List.range (N + 1)).map fun j => if j = N then 1 else if j = 1 then -1 else 0, by simp, Cg.of_eq ?_⟩
    funext j
    simp only [Row.add, Row.sm, ee, rl, List.getD_eq_getElem?_getD, List.getElem?_map]
    by_cases h : j < N + 1
    · rw [List.getElem?_range h]
      by_cases h1 : j = N
      · simp [h1]; omega
      · by_cases h2 : j = 1
        · simp [h2]; omega
        · simp [h1, h2]
    · rw [List.getElem?_eq_none (by simp; omega), if_neg (by omega), if_neg (by omega)]; rfl
  obtain ⟨Q, hQ, hc, _⟩ := dloop_row (p := p) (low := mod) (N + 1 - m.toNat) lst (by omega)
  have hRs := dloop_sup (p := p) (low := mod) (N + 1 - m.toNat) lst (by rw [hml, show m.toNat + (N + 1 - m.toNat) = lst.length by omega]; exact rl_sup lst)
  generalize rl (dloop p mod (N + 1 - m.toNat) lst) = R at hc hRs
  refine ⟨Q, N + 1 - m.toNat, by omega, ?_⟩
  have hL := tm_lin m.toNat (rl mod)
  have hG : Sup (m.toNat + 1) (gF mod) := by have := gF_sup mod; rwa [hml] at this
  have h1 := Cg.pl hL (N + 1) (hl.trans hc) (Cg.refl p (ee 0))
  rw [pl_addQ, pl_smQ, pl_ee hL (by omega), pl_ee hL (by omega), pl_addQ] at h1
  rw [hml] at hRs
  have h2 : pl (tm m.toNat (rl mod)) (N + 1) R (ee 0) = R := by rw [pl_bound' hRs _ (by omega), pl_tm_self hRs]
  have h3 : pl (tm m.toNat (rl mod)) (N + 1) (pl sh (N + 1 - m.toNat) Q (gF mod)) (ee 0) = Row.z := by
    have h4 := pl_mul hL hG Q (ee 0) (N - m.toNat) (N + 1 - m.toNat) (by omega)
    rw [show m.toNat + 1 + (N - m.toNat) = N + 1 by omega] at h4
    have h5 : pl (tm m.toNat (rl mod)) (m.toNat + 1) (gF mod) (ee 0) = Row.z := by
      have := fF_e (M := m.toNat) (low := rl mod) (by omega)
      have e : gF mod = fF m.toNat (rl mod) := by rw [← hml]; exact fF_rl
      rw [e]; exact this
    rw [h4, h5, pl_z hL]
  rw [h2, h3, Row.add_z] at h1
  have h6 : Cg p ((it (tm m.toNat (rl mod)) N (ee 0)).add (Row.sm (-1) (it (tm m.toNat (rl mod)) 1 (ee 0)))) Row.z := by
    have h7 : Rg.pow t N = t := by rw [hN]; exact all_powk t k
    have h8 := ht N
    have h9 := ht 1
    rw [h7] at h8
    rw [Rg.pow_one] at h9
    refine Cg.trans (Cg.add h8.symm (Cg.sm (-1) h9.symm)) (Cg.of_eq ?_)
    exact add_neg_z _
  have hR : Cg p R Row.z := h1.symm.trans h6
  refine Cg.trans (hl.trans hc) (Cg.trans (Cg.add hR (Cg.refl _ _)) (Cg.of_eq (Row.z_add _)))
end
theorem pw_dvd {p m m2 : Int} {mod mod2 : List Int} (hF : IsF p m mod) (hE : IsF p m2 mod2) (hd : m2 % m = 0) : ∃ k : Nat, (pw p m2).toNat = (pw p m).toNat ^ k := by
  have hp := hF.p2
  have h1 := hF.m1
  have h2 := hE.m1
  obtain ⟨c, hc⟩ := Int.dvd_of_emod_eq_zero hd
  have hc0 : 0 ≤ c := by
    rcases Int.lt_or_le c 0 with h | h
    · have := Int.mul_neg_of_pos_of_neg (show 0 < m by omega) h; omega
    · exact h
  refine ⟨c.toNat, ?_⟩
  unfold pw
  have e : m2.toNat = m.toNat * c.toNat := by rw [hc, Int.toNat_mul (by omega) hc0]
  rw [e, Int.pow_mul]
  obtain ⟨a, ha⟩ := Int.eq_ofNat_of_zero_le (show 0 ≤ p ^ m.toNat from Int.pow_nonneg (by omega))
  rw [ha, ← Int.natCast_pow, Int.toNat_natCast, Int.toNat_natCast]
section
variable {p m m2 : Int} {mod mod2 : List Int} [hF : IsF p m mod] [hE : IsF p m2 mod2]
theorem emb_root (hm : 2 ≤ m) (hd : m2 % m = 0) : ∃ a : El p m2 mod2, Po.val (pol (mod ++ [1]) : Po (El p m2 mod2)) a = 0 := by
  have hp := hF.p2
  have hs := hF.out.1.1
  have hq2 := hE.q2
  have h1 := hF.m1
  have h2 := hE.m1
  have hml : mod.length = m.toNat := by
    rcases hs.low with h | h
    · omega
    · omega
  obtain ⟨k, hk⟩ := pw_dvd hF hE hd
  have hmm : m ≤ m2 := Int.le_of_dvd (by omega) (Int.dvd_of_emod_eq_zero hd)
  have hNm : m.toNat ≤ (pw p m2).toNat := by
    have h3 : m2.toNat < 2 ^ m2.toNat := Nat.lt_two_pow_self
    have h4 : 2 ^ m2.toNat ≤ p.toNat ^ m2.toNat := Nat.pow_le_pow_left (by omega) _
    have h5 : (pw p m2).toNat = p.toNat ^ m2.toNat := by
      unfold pw
      obtain ⟨a, ha⟩ := Int.eq_ofNat_of_zero_le (show 0 ≤ p by omega)
      rw [ha, ← Int.natCast_pow, Int.toNat_natCast, Int.toNat_natCast]
    omega
  obtain ⟨Q, n, hn, hc⟩ := emb_fac (p := p) (m := m) (mod := mod) hm hk hNm (by omega)
  have hG : Sup (m.toNat + 1) (gF mod) := by have := gF_sup mod; rwa [hml] at this
  have h3 := zp_cg (p := p) (m := m2) (mod := mod2) ((pw p m2).toNat + 1) hc
  rw [zp_pl hG Q n _ (by omega)] at h3
  have h4 : (zp ((pw p m2).toNat + 1) ((ee (pw p m2).toNat).add (Row.sm (-1) (ee 1))) : Po (El p m2 mod2)) = Po.mn 1 (pw p m2).toNat - Po.mn 1 1 := Po.ext fun j => by
    rw [cf_zp, Po.cf_sub, Po.cf_mn, Po.cf_mn]
    by_cases hj : j < (pw p m2).toNat + 1
    · rw [if_pos hj]
      simp only [Row.add, Row.sm]
      rw [zi_add, zi_neg]
      have e : ∀ i : Nat, (zi (ee i j) : El p m2 mod2) = if j = i then 1 else 0 := fun i => by
        unfold ee
        by_cases h : j = i
        · rw [if_pos h, if_pos h, zi_one]
        · rw [if_neg h, if_neg h, zi_zero]
      rw [e, e]; rfl
    · rw [if_neg hj, if_neg (by omega), if_neg (by omega), Rg.sub_self]
  have h5 : (zp (m.toNat + 1) (gF mod) : Po (El p m2 mod2)) = pol (mod ++ [1]) := Po.ext fun j => by
    rw [cf_zp, cf_pol]
    by_cases hj : j < m.toNat + 1
    · rw [if_pos hj]
      have hb : 0 ≤ (mod ++ [1]).getD j 0 ∧ (mod ++ [1]).getD j 0 < p := by
        have hin : AllIn p (mod ++ [1]) := fun z hz => by
          rcases List.mem_append.1 hz with h | h
          · exact hs.ent z h
          · rw [List.mem_singleton.1 h]; omega
        exact hin.get (by omega) j
      exact zi_el hb.1 hb.2
    · rw [if_neg hj, getD_out (by rw [List.length_append]; simp; omega), el_zero]
  rw [h4, h5] at h3
  refine Classical.byContradiction fun hno => ?_
  have hno : ∀ a : El p m2 mod2, Po.val (pol (mod ++ [1]) : Po (El p m2 mod2)) a ≠ 0 := fun a h => hno ⟨a, h⟩
  have hQ0 : (zp n Q : Po (El p m2 mod2)) ≠ 0 := fun e => by
    rw [e, Rg.zero_mul] at h3
    have := congrArg (fun f => Po.cf f 1) h3
    simp only [Po.cf_sub, Po.cf_mn, Po.cf_zero] at this
    rw [if_neg (show ¬ 1 = (pw p m2).toNat by omega), if_pos trivial, Rg.zero_sub] at this
    exact Fd.one_ne (K := El p m2 mod2) (Rg.neg_eq_zero this)
  have hval : ∀ a : El p m2 mod2, Po.val (zp n Q : Po (El p m2 mod2)) a = 0 := fun a => by
    have h6 := congrArg (fun f => Po.val f a) h3
    simp only [Po.val_sub, Po.val_mn, Po.val_mul] at h6
    rw [all_pow, Rg.pow_one, Rg.sub_self] at h6
    exact (Fd.mul_eq_zero h6.symm).resolve_right (hno a)
  have hz := elNz_nz hE.out
  have h7 := roots_len (0 :: elNz p m2 mod2) (zp n Q : Po (El p m2 mod2)) (List.nodup_cons.2 ⟨fun h => (hz.mem 0).1 h rfl, hz.nd⟩) hQ0 (fun a _ => hval a)
  have h8 := Po.len_le (zp_sh (p := p) (m := m2) (mod := mod2) n Q)
  rw [List.length_cons, elNz_len] at h7
  omega
end
end Go.Proofs.YtgnmcoegdogfgaaGreat

set_option linter.unusedSimpArgs false
set_option linter.unusedVariables false
set_option maxRecDepth 100000
namespace Go.Proofs.YtgnmcoegdogfgaaGreat
open Go.RowKit
theorem mat_openG_ent : Enters Tryz.prog 181 := enters_of Tryz.func181 (by kernel_rfl) (by kernel_rfl)
theorem mat_openG (p m : Int) (A : Option Addr) (c : Nat) (mod : List Int) (hl9 : mod.length ≤ 17592186044415) [hF : IsF p m mod] (pl : Addr) (cl : Nat) (w : Int) (Aa : Option Addr) (n ca : Nat) (rs : List RowM) (hn : n = rs.length) (h9 : rs.length ≤ 17592186044415) (h8 : ∀ r ∈ rs, r.xs.length ≤ 17592186044415) (hE : rowsC (pw p m) w (xss rs) = 0) :
    Pure Tryz.prog 181 #[.agg #[.int .i64 p, .int .i64 m, .slice A mod.length c], .slice (some pl) 1 cl] [ro A (ints mod), ro (some pl) [.int .i64 w, .slice Aa n ca], ro Aa (hdrs rs), rowsR rs] (one (fun v ch => ∃ g : GfM, v = .tuple #[.pointer (some g.p), .int .i64 0] ∧ ch = gfN g ∧ GOk g p m mod)) := by
  refine pure_of (args := [.agg #[.int .i64 p, .int .i64 m, .slice A mod.length c], .slice (some pl) 1 cl]) 32 Tryz.func181 rfl rfl rfl mat_openG_ent ⟨id, id, id, id, trivial⟩ (fun w0 => ?_)
  refine tr_seq ?_
  refine tr_region fun _ _ _ => ?_
  refine ef rfl rfl (eBox rfl rfl rfl rfl rfl (fun p0 => ?_)) 
  iterate 2 refine pu rfl rfl rfl rfl rfl ?_
  refine tr_seq ?_
  refine tr_region fun _ _ _ => ?_
  refine st rfl rfl rfl rfl (rLdS rfl rfl rfl) ?_
  refine ef rfl rfl (eCall1 rfl rfl rfl (fld_New_ok _ _ _ _ _ hl9 hF.out) ⟨rfl, trivial⟩ ?_) 
  rintro _ _ ⟨g, rfl, rfl, hg⟩
  iterate 5 refine pu rfl rfl rfl rfl rfl ?_
  refine tr_seq ?_
  refine tr_seq ?_
  refine tr_region fun _ _ _ => ?_
  iterate 2 refine pu rfl rfl rfl rfl rfl ?_
  refine tr_cond_bool rfl (fun h2 => ?_) (fun h2 => ?_)
  · try simp only [zbA] at h2
    first | exact absurd trivial h2 | exact absurd rfl h2 | omega | (exact absurd h2 (by simp)) --done
  · try simp only [zbA] at h2
    refine tr_skip ?_
    refine tr_seq ?_
    refine tr_seq ?_
    refine tr_region fun _ _ _ => ?_
    refine pu rfl rfl rfl rfl rfl ?_
    refine st rfl rfl rfl rfl (rLenS rfl rfl) ?_
    refine pu rfl rfl rfl rfl rfl ?_
    refine tr_block ?_
    refine tr_loop1 (fun (k : Int) => [(20, .int .i64 k), (6, .pointer (some g.p)), (18, .slice (some pl) 1 cl), (19, .int .i64 1)]) (fun (k : Int) => [gfN g, blk p0 24 [.int .i64 p, .int .i64 m, .slice A mod.length c], ro A (ints mod), ro (some pl) [.int .i64 w, .slice Aa n ca], ro Aa (hdrs rs), rowsR rs]) (fun (k : Int) => 0 ≤ k ∧ k ≤ 1) (fun (k : Int) => (1 - k).toNat) (0) ⟨rfl, rfl, rfl, rfl, trivial⟩ (by first | exact cs _ _ | exact CSub.refl _) (by omega) (fun k hI => ?_)
    refine tr_seq ?_
    refine tr_region fun _ _ _ => ?_
    refine pu rfl rfl rfl rfl rfl ?_
    refine tr_seq ?_
    refine tr_cond_bool rfl (fun h5 => ?_) (fun h5 => ?_)
    · try simp only [zbA] at h5
      refine tr_skip ?_
      refine tr_seq ?_
      refine tr_block ?_
      refine tr_seq ?_
      refine tr_region fun _ _ _ => ?_
      refine st rfl rfl rfl rfl (rIdxS0 rfl rfl rfl (by omega) (by omega)) ?_
      refine st rfl rfl rfl rfl (rLdS rfl rfl rfl) ?_
      refine ef rfl rfl (eAlloc rfl rfl rfl (fun p6 => ?_)) 
      refine ef rfl rfl (eStS rfl rfl rfl rfl rfl rfl ?_) 
      refine tr_seq ?_
      refine tr_region fun _ _ _ => ?_
      refine pu rfl rfl rfl rfl rfl ?_
      refine st rfl rfl rfl rfl (rLdS rfl rfl rfl) ?_
      refine ef rfl rfl (eCallV rfl rfl rfl (mat_checkC g (pw p m) hg.eq w _ _ _ rs hn h9 h8) ⟨rfl, rfl, trivial⟩ ?_) 
      refine pu rfl rfl rfl rfl rfl ?_
      refine tr_seq ?_
      refine tr_region fun _ _ _ => ?_
      iterate 2 refine pu rfl rfl rfl rfl rfl ?_
      refine tr_cond_bool rfl (fun h8 => ?_) (fun h8 => ?_)
      · try simp only [zbA] at h8
        omega --done
      · try simp only [zbA] at h8
        refine tr_skip ?_
        refine tr_region fun _ _ _ => ?_
        refine st rfl rfl rfl rfl (rAdd rfl rfl rfl (by omega) (by omega)) ?_
        refine pu rfl rfl rfl rfl rfl ?_
        refine ⟨k + 1, ⟨rfl, rfl, rfl, rfl, trivial⟩, by first | exact cs _ _ | exact CSub.refl _, ?_⟩
        omega
    · try simp only [zbA] at h5
      refine tr_exit ?_
      refine tr_seq ?_
      refine tr_region fun _ _ _ => ?_
      iterate 3 refine pu rfl rfl rfl rfl rfl ?_
      exact tr_ret ⟨trivial, _, _, rfl, ⟨_, rfl, g, rfl, rfl, hg⟩, cs _ _, ⟨trivial, trivial, trivial, trivial⟩, trivial⟩
theorem mat_CanonicalG_ent : Enters Tryz.prog 126 := enters_of Tryz.func126 (by kernel_rfl) (by kernel_rfl)
theorem mat_CanonicalG (p m : Int) (A : Option Addr) (c : Nat) (mod : List Int) (hl9 : mod.length ≤ 17592186044415) [hF : IsF p m mod] (w : Int) (Aa : Option Addr) (n ca : Nat) (rs : List RowM) (hn : n = rs.length) (h9 : rs.length ≤ 17592186044415) (h8 : ∀ r ∈ rs, r.xs.length ≤ 17592186044415) (hE : rowsC (pw p m) w (xss rs) = 0) :
    Pure Tryz.prog 126 #[.agg #[.int .i64 p, .int .i64 m, .slice A mod.length c], .agg #[.int .i64 w, .slice Aa n ca]] [ro A (ints mod), ro Aa (hdrs rs), rowsR rs] (three (fun v ca cb cc => ∃ B r3 Bp cp ps, v = .tuple #[.agg #[.int .i64 w, .slice B r3.length r3.length], .slice Bp ps.length cp, .int .i64 0] ∧ ca = rx B (hdrs r3) ∧ cb = rowsCh 3 r3 ∧ cc = ow Bp 3 cp (ints ps) ∧ RrOf p m mod w.toNat rs r3 ps ∧ r3.length ≤ rs.length)) := by
  obtain ⟨hb, hlen, hin⟩ := rowsC_zero hE
  rw [xss_length] at hb
  have hgd : Gd (pw p m) w.toNat rs := (Gd_iff hb.1).2 ⟨hlen, hin⟩
  refine pure_ofC (args := [.agg #[.int .i64 p, .int .i64 m, .slice A mod.length c], .agg #[.int .i64 w, .slice Aa n ca]]) 36 Tryz.func126 rfl rfl rfl mat_CanonicalG_ent ⟨id, id, id, trivial⟩ (fun w0 => ?_)
  refine tr_seq ?_
  refine tr_region fun _ _ _ => ?_
  refine ef rfl rfl (eBox rfl rfl rfl rfl rfl (fun p0 => ?_)) 
  refine ef rfl rfl (eBox rfl rfl rfl rfl rfl (fun p0a => ?_)) 
  refine ef rfl rfl (eAlloc rfl rfl rfl (fun p0b => ?_)) 
  iterate 2 refine pu rfl rfl rfl rfl rfl ?_
  refine tr_seq ?_
  refine tr_region fun _ _ _ => ?_
  refine st rfl rfl rfl rfl (rLdS rfl rfl rfl) ?_
  refine st rfl rfl rfl rfl (rLdS rfl rfl rfl) ?_
  refine ef rfl rfl (eLitS rfl rfl rfl rfl (fun p1 => ?_)) 
  refine ef rfl rfl (eCall1 rfl rfl rfl (mat_openG _ _ _ _ _ hl9 _ _ w Aa _ ca rs hn h9 h8 hE) ⟨rfl, rfl, trivial⟩ ?_) 
  rintro _ _ ⟨g, rfl, rfl, hg⟩
  iterate 5 refine pu rfl rfl rfl rfl rfl ?_
  refine tr_seq ?_
  refine tr_seq ?_
  refine tr_region fun _ _ _ => ?_
  iterate 2 refine pu rfl rfl rfl rfl rfl ?_
  refine tr_cond_bool rfl (fun h2 => ?_) (fun h2 => ?_)
  · try simp only [zbA] at h2
    first | exact absurd trivial h2 | exact absurd rfl h2 | omega | (exact absurd h2 (by simp)) --done
  · try simp only [zbA] at h2
    refine tr_skip ?_
    refine tr_seq ?_
    refine tr_region fun _ _ _ => ?_
    refine pu rfl rfl rfl rfl rfl ?_
    refine st rfl rfl rfl rfl (rFld rfl rfl) ?_
    refine st rfl rfl rfl rfl (rLdF rfl rfl rfl) ?_
    refine st rfl rfl rfl rfl (rFld rfl rfl) ?_
    refine st rfl rfl rfl rfl (rLdF rfl rfl rfl) ?_
    refine ef rfl rfl (eCall3 rfl rfl rfl (mat_canon g hg w (by omega) (by omega) _ _ _ rs hn (by omega) hgd) ⟨rfl, rfl, rfl, trivial⟩ ?_) 
    rintro _ _ _ _ ⟨B, r3, Bp, cp, ps, rfl, rfl, rfl, rfl, hR, hk⟩
    iterate 5 refine pu rfl rfl rfl rfl rfl ?_
    refine tr_seq ?_
    refine tr_region fun _ _ _ => ?_
    refine st rfl rfl rfl rfl (rFld rfl rfl) ?_
    refine st rfl rfl rfl rfl (rLdF rfl rfl rfl) ?_
    refine pu rfl rfl rfl rfl rfl ?_
    refine st rfl rfl rfl rfl (rBuild rfl rfl) ?_
    refine pu rfl rfl rfl rfl rfl ?_
    refine ef rfl rfl (eStS rfl rfl rfl rfl rfl rfl ?_) 
    iterate 2 refine pu rfl rfl rfl rfl rfl ?_
    exact tr_ret ⟨trivial, _, _, (.cell rfl (cellS rfl) (.tmp rfl (.tmp rfl .nil))), ⟨_, _, _, rfl, B, r3, Bp, cp, ps, rfl, rfl, rfl, rfl, hR, hk⟩, cs _ _, trivial, trivial, trivial, trivial⟩
theorem code_own_ent : Enters Tryz.prog 183 := enters_of Tryz.func183 (by kernel_rfl) (by kernel_rfl)
theorem code_own (p m : Int) (A : Option Addr) (c : Nat) (mod : List Int) (hl9 : mod.length ≤ 1000000) :
    Pure Tryz.prog 183 #[.agg #[.int .i64 p, .int .i64 m, .slice A mod.length c]] [ro A (ints mod)] (one (fun v ch => ∃ B cb, v = .agg #[.int .i64 p, .int .i64 m, .slice B mod.length cb] ∧ ch = ow B 3 cb (ints mod))) := by
  refine pure_ofC (args := [.agg #[.int .i64 p, .int .i64 m, .slice A mod.length c]]) 8 Tryz.func183 rfl rfl rfl code_own_ent ⟨id, trivial⟩ (fun w0 => ?_)
  refine tr_seq ?_
  refine tr_region fun _ _ _ => ?_
  refine ef rfl rfl (eBox rfl rfl rfl rfl rfl (fun p0 => ?_)) 
  refine ef rfl rfl (eAlloc rfl rfl rfl (fun p0a => ?_)) 
  refine tr_seq ?_
  refine tr_region fun _ _ _ => ?_
  refine st rfl rfl rfl rfl (rFld rfl rfl) ?_
  refine st rfl rfl rfl rfl (rLdF rfl rfl rfl) ?_
  refine ef rfl rfl (eCall1 rfl rfl rfl (slc_Clone _ _ _ (by omega)) ⟨rfl, trivial⟩ ?_) 
  rintro _ _ ⟨B1, c1, rfl, rfl⟩
  refine st rfl rfl rfl rfl (rFld rfl rfl) ?_
  refine ef rfl rfl (eStF rfl rfl rfl rfl rfl (by simp) rfl rfl ?_) 
  refine tr_seq ?_
  refine tr_region fun _ _ _ => ?_
  refine st rfl rfl rfl rfl (rLdS rfl rfl rfl) ?_
  refine ef rfl rfl (eStS rfl rfl rfl rfl rfl rfl ?_) 
  exact tr_ret ⟨trivial, _, _, (.cell rfl (cellS rfl) .nil), ⟨_, rfl, B1, c1, rfl, rfl⟩, cs _ _, trivial, trivial⟩
theorem code_of_ent : Enters Tryz.prog 127 := enters_of Tryz.func127 (by kernel_rfl) (by kernel_rfl)
theorem code_of (p m : Int) (A : Option Addr) (c : Nat) (mod : List Int) (hl9 : mod.length ≤ 1000000) (w : Int) (Aa : Option Addr) (n ca : Nat) :
    Pure Tryz.prog 127 #[.agg #[.int .i64 p, .int .i64 m, .slice A mod.length c], .agg #[.int .i64 w, .slice Aa n ca], .int .i64 0] [ro A (ints mod)] (one (fun v ch => ∃ B cb, v = .tuple #[.agg #[.int .i64 p, .int .i64 m, .slice B mod.length cb, .int .i64 w, .slice Aa n ca], .int .i64 0] ∧ ch = ow B 3 cb (ints mod))) := by
  refine pure_ofC (args := [.agg #[.int .i64 p, .int .i64 m, .slice A mod.length c], .agg #[.int .i64 w, .slice Aa n ca], .int .i64 0]) 19 Tryz.func127 rfl rfl rfl code_of_ent ⟨id, trivial⟩ (fun w0 => ?_)
  refine tr_seq ?_
  refine tr_region fun _ _ _ => ?_
  refine ef rfl rfl (eBox rfl rfl rfl rfl rfl (fun p0 => ?_)) 
  refine ef rfl rfl (eBox rfl rfl rfl rfl rfl (fun p0a => ?_)) 
  refine ef rfl rfl (eAlloc rfl rfl rfl (fun p0b => ?_)) 
  refine pu rfl rfl rfl rfl rfl ?_
  refine tr_seq ?_
  refine tr_seq ?_
  refine tr_region fun _ _ _ => ?_
  iterate 2 refine pu rfl rfl rfl rfl rfl ?_
  refine tr_cond_bool rfl (fun h1 => ?_) (fun h1 => ?_)
  · try simp only [zbA] at h1
    first | exact absurd trivial h1 | exact absurd rfl h1 | omega | (exact absurd h1 (by simp)) --done
  · try simp only [zbA] at h1
    refine tr_skip ?_
    refine tr_seq ?_
    refine tr_draw [0, 2, 3, 4, 5, 1, 6] [7, 8] mixed (by kernel_rfl) fun _ _ _ => ?_
    refine st rfl rfl rfl rfl (rLdS rfl rfl rfl) ?_
    refine st rfl rfl rfl rfl (rFld rfl rfl) ?_
    refine st rfl rfl rfl rfl (rLdF rfl rfl rfl) ?_
    refine st rfl rfl rfl rfl (rFld rfl rfl) ?_
    refine st rfl rfl rfl rfl (rLdF rfl rfl rfl) ?_
    refine ef rfl rfl (eCall1 rfl rfl rfl (code_own _ _ _ _ _ (by omega)) ⟨rfl, trivial⟩ ?_) 
    rintro _ _ ⟨B3, c3, rfl, rfl⟩
    refine st rfl rfl rfl rfl (rBuild rfl rfl) ?_
    refine ef rfl rfl (eStS rfl rfl rfl rfl rfl rfl ?_) 
    refine pu rfl rfl rfl rfl rfl ?_
    exact tr_ret ⟨trivial, _, _, (.cell rfl (cellS rfl) (.tmp rfl .nil)), ⟨_, rfl, B3, c3, rfl, rfl⟩, cs _ _, trivial, trivial⟩
theorem code_length_ent : Enters Tryz.prog 72 := enters_of Tryz.func72 (by kernel_rfl) (by kernel_rfl)
theorem code_length (n : Int) :
    Pure Tryz.prog 72 #[.int .i64 n] [] (isV (.int .i64 (if n < 1 ∨ n > 64 then 4 else 0))) := by
  refine pure_of (args := [.int .i64 n]) 9 Tryz.func72 rfl rfl rfl code_length_ent trivial (fun w0 => ?_)
  refine tr_seq ?_
  refine tr_region fun _ _ _ => ?_
  refine pu rfl rfl rfl rfl rfl ?_
  refine tr_seq ?_
  refine tr_seq ?_
  refine tr_region fun _ _ _ => ?_
  iterate 3 refine pu rfl rfl rfl rfl rfl ?_
  refine stg rfl rfl rfl rfl rfl (fun hb => by (have hq := hb; try simp only [zbA] at hq); exact rMove rfl rfl) ?_
  refine stg rfl rfl rfl rfl rfl (fun hb => by (have hq := hb; try simp only [zbA] at hq); exact rGtr rfl (evg rfl hb) rfl) ?_
  refine st rfl rfl rfl rfl (rOrB rfl rfl rfl rfl) ?_
  refine tr_cond_bool rfl (fun h1 => ?_) (fun h1 => ?_)
  · try simp only [zbA] at h1
    refine tr_seq ?_
    refine tr_region fun _ _ _ => ?_
    refine pu rfl rfl rfl rfl rfl ?_
    exact tr_ret ⟨trivial, _, _, rfl, ⟨by rw [if_pos (by omega)], rfl⟩, CSub.nil _, trivial⟩
  · try simp only [zbA] at h1
    refine tr_skip ?_
    refine tr_seq ?_
    refine tr_region fun _ _ _ => ?_
    refine pu rfl rfl rfl rfl rfl ?_
    exact tr_ret ⟨trivial, _, _, rfl, ⟨by rw [if_neg (by omega)], rfl⟩, CSub.nil _, trivial⟩
theorem code_lengthOk (n : Int) (h1 : 1 ≤ n) (h2 : n ≤ 64) : Pure Tryz.prog 72 #[.int .i64 n] [] (isV (.int .i64 0)) := by
  have := code_length n
  rwa [if_neg (by omega)] at this
theorem rowsC_gd {q w : Int} {rs : List RowM} (h0 : 0 ≤ w) (h1 : w ≤ 256) (h2 : rs.length ≤ 256) (h : Gd q w.toNat rs) : rowsC q w (xss rs) = 0 :=
  rowsC_ok (by rw [xss_length]; exact ⟨h0, h1, by omega⟩) ((Gd_iff h0).1 h).1 ((Gd_iff h0).1 h).2
theorem Gd.h8 {q : Int} {w N : Nat} {rs : List RowM} (h : Gd q w rs) (hw : w ≤ N) : ∀ r ∈ rs, r.xs.length ≤ N := fun r hr => by have := (h r hr).1; omega
theorem IsF.short {p m : Int} {mod : List Int} (hF : IsF p m mod) : mod.length ≤ 8 := by
  have h := hF.out.1.1
  have := h.m8
  rcases h.low with h1 | h1
  · rw [h1.2]; simp
  · have := h1.2; omega
theorem code_New_ent : Enters Tryz.prog 70 := enters_of Tryz.func70 (by kernel_rfl) (by kernel_rfl)
theorem code_New (p m : Int) (A : Option Addr) (c : Nat) (mod : List Int) [hF : IsF p m mod] (w : Int) (Aa : Option Addr) (n ca : Nat) (rs : List RowM) (hn : n = rs.length) (h9 : rs.length ≤ 256) (hw1 : 1 ≤ w) (hw64 : w ≤ 64) (hgd : Gd (pw p m) w.toNat rs) :
    Pure Tryz.prog 70 #[.agg #[.int .i64 p, .int .i64 m, .slice A mod.length c], .agg #[.int .i64 w, .slice Aa n ca]] [ro A (ints mod), ro Aa (hdrs rs), rowsR rs] (three (fun v ca cb cc => ∃ Bm cm B r3, v = .tuple #[.agg #[.int .i64 p, .int .i64 m, .slice Bm mod.length cm, .int .i64 w, .slice B r3.length r3.length], .int .i64 0] ∧ ca = ow Bm 3 cm (ints mod) ∧ cb = rx B (hdrs r3) ∧ cc = rowsCh 3 r3 ∧ CdOf p m mod w.toNat r3 (fun u => Vc.SpL (vsR rs : List (Vc (El p m mod))) u))) := by
  have hl8 := hF.short
  have hE := rowsC_gd (by omega) (by omega) h9 hgd
  refine pure_ofC (args := [.agg #[.int .i64 p, .int .i64 m, .slice A mod.length c], .agg #[.int .i64 w, .slice Aa n ca]]) 27 Tryz.func70 rfl rfl rfl code_New_ent ⟨id, id, id, trivial⟩ (fun w0 => ?_)
  refine tr_seq ?_
  refine tr_region fun _ _ _ => ?_
  refine ef rfl rfl (eBox rfl rfl rfl rfl rfl (fun p0 => ?_)) 
  refine ef rfl rfl (eBox rfl rfl rfl rfl rfl (fun p0a => ?_)) 
  refine ef rfl rfl (eAlloc rfl rfl rfl (fun p0b => ?_)) 
  refine pu rfl rfl rfl rfl rfl ?_
  refine tr_seq ?_
  refine tr_region fun _ _ _ => ?_
  refine st rfl rfl rfl rfl (rLdS rfl rfl rfl) ?_
  refine st rfl rfl rfl rfl (rLdS rfl rfl rfl) ?_
  refine ef rfl rfl (eCall3 rfl rfl rfl (mat_CanonicalG _ _ _ _ _ (by omega) w _ _ _ rs hn (by omega) (hgd.h8 (by omega)) hE) ⟨rfl, rfl, trivial⟩ ?_) 
  rintro _ _ _ _ ⟨B, r3, Bp, cp, ps, rfl, rfl, rfl, rfl, hR, hk⟩
  iterate 4 refine pu rfl rfl rfl rfl rfl ?_
  refine ef rfl rfl (eAlloc rfl rfl rfl (fun p1a => ?_)) 
  refine ef rfl rfl (eStS rfl rfl rfl rfl rfl rfl ?_) 
  iterate 2 refine pu rfl rfl rfl rfl rfl ?_
  refine tr_seq ?_
  refine tr_seq ?_
  refine tr_region fun _ _ _ => ?_
  iterate 2 refine pu rfl rfl rfl rfl rfl ?_
  refine tr_cond_bool rfl (fun h2 => ?_) (fun h2 => ?_)
  · try simp only [zbA] at h2
    refine tr_region fun _ _ _ => ?_
    refine st rfl rfl rfl rfl (rFld rfl rfl) ?_
    refine st rfl rfl rfl rfl (rLdF rfl rfl rfl) ?_
    refine ef rfl rfl (eCallV rfl rfl rfl (code_lengthOk w hw1 hw64) ⟨rfl, trivial⟩ ?_) 
    refine pu rfl rfl rfl rfl rfl ?_
    refine tr_seq ?_
    refine tr_region fun _ _ _ => ?_
    refine st rfl rfl rfl rfl (rLdS rfl rfl rfl) ?_
    refine st rfl rfl rfl rfl (rLdS rfl rfl rfl) ?_
    refine pu rfl rfl rfl rfl rfl ?_
    refine ef rfl rfl (eCall1 rfl rfl rfl (code_of _ _ _ _ _ (by omega) _ _ _ _) ⟨rfl, rfl, rfl, trivial⟩ ?_) 
    rintro _ _ ⟨B4, c4, rfl, rfl⟩
    iterate 2 refine pu rfl rfl rfl rfl rfl ?_
    refine ef rfl rfl (eStS rfl rfl rfl rfl rfl rfl ?_) 
    refine pu rfl rfl rfl rfl rfl ?_
    exact tr_ret ⟨trivial, _, _, (.cell rfl (cellS rfl) (.tmp rfl .nil)), ⟨_, _, _, rfl, B4, c4, B, r3, rfl, rfl, rfl, rfl, hR.cd fun u => Iff.rfl⟩, cs _ _, trivial, trivial, trivial, trivial⟩
  · try simp only [zbA] at h2
    first | exact absurd trivial h2 | exact absurd rfl h2 | omega | (exact absurd h2 (by simp)) --done
end Go.Proofs.YtgnmcoegdogfgaaGreat

set_option linter.unusedSimpArgs false
set_option linter.unusedVariables false
set_option maxRecDepth 100000
namespace Go.Proofs.YtgnmcoegdogfgaaGreat
open Go.RowKit
theorem cyc_New_ent : Enters Tryz.prog 27 := enters_of Tryz.func27 (by kernel_rfl) (by kernel_rfl)
theorem cyc_New (p m : Int) (A : Option Addr) (c : Nat) (mod : List Int) [hF : IsF p m mod] (n : Int) (hn1 : 1 ≤ n) (hn9 : n ≤ 64) (Al : Option Addr) (nl cl : Nat) (l : List Int) (hnl : nl = l.length) (hl : l.length ≤ 100000) (hin : AllIn (pw p m) l) :
    Pure Tryz.prog 27 #[.agg #[.int .i64 p, .int .i64 m, .slice A mod.length c], .int .i64 n, .slice Al nl cl] [ro A (ints mod), ro Al (ints l)] (three (fun v ca cb cc => ∃ Bm cm B r3, v = .tuple #[.agg #[.int .i64 p, .int .i64 m, .slice Bm mod.length cm, .int .i64 n, .slice B r3.length r3.length], .int .i64 0] ∧ ca = ow Bm 3 cm (ints mod) ∧ cb = rx B (hdrs r3) ∧ cc = rowsCh 3 r3 ∧ CdOf p m mod n.toNat r3 (CyW n.toNat (Po.gcd (pol l : Po (El p m mod)) (xn1 n.toNat))))) := by
  have hq2 := hF.q2
  have hgl : (il (Po.gcd (pol l : Po (El p m mod)) (xn1 n.toNat))).length ≤ n.toNat + 1 := by
    rw [il_length]; have := Po.dvd_len (Po.gcd_is (pol l : Po (El p m mod)) (xn1 n.toNat)).right (xn1_ne (by omega)); rw [xn1_len (by omega)] at this; exact this
  have hg0 : 1 ≤ (il (Po.gcd (pol l : Po (El p m mod)) (xn1 n.toNat))).length := by
    rw [il_length]; exact Po.len_pos (Po.gcd_ne (.inr (xn1_ne (by omega))))
  have hgi := il_in (Po.gcd (pol l : Po (El p m mod)) (xn1 n.toNat))
  refine pure_ofC (args := [.agg #[.int .i64 p, .int .i64 m, .slice A mod.length c], .int .i64 n, .slice Al nl cl]) 77 Tryz.func27 rfl rfl rfl cyc_New_ent ⟨id, id, trivial⟩ (fun w0 => ?_)
  refine tr_seq ?_
  refine tr_region fun _ _ _ => ?_
  refine ef rfl rfl (eBox rfl rfl rfl rfl rfl (fun p0 => ?_)) 
  refine ef rfl rfl (eAlloc rfl rfl rfl (fun p0a => ?_)) 
  refine pu rfl rfl rfl rfl rfl ?_
  refine tr_seq ?_
  refine tr_region fun _ _ _ => ?_
  refine st rfl rfl rfl rfl (rLdS rfl rfl rfl) ?_
  refine ef rfl rfl (eCall1 rfl rfl rfl (fld_New_ok _ _ _ _ _ (by have := hF.short; omega) hF.out) ⟨rfl, trivial⟩ ?_) 
  rintro _ _ ⟨g, rfl, rfl, hg⟩
  iterate 5 refine pu rfl rfl rfl rfl rfl ?_
  refine tr_seq ?_
  refine tr_seq ?_
  refine tr_region fun _ _ _ => ?_
  iterate 2 refine pu rfl rfl rfl rfl rfl ?_
  refine tr_cond_bool rfl (fun h2 => ?_) (fun h2 => ?_)
  · try simp only [zbA] at h2
    first | exact absurd trivial h2 | exact absurd rfl h2 | omega --done
  · try simp only [zbA] at h2
    refine tr_skip ?_
    refine tr_seq ?_
    refine tr_seq ?_
    refine tr_region fun _ _ _ => ?_
    iterate 3 refine pu rfl rfl rfl rfl rfl ?_
    refine stg rfl rfl rfl rfl rfl (fun hb => by (have hq := hb; try simp only [zbA] at hq); exact rMove rfl rfl) ?_
    refine stg rfl rfl rfl rfl rfl (fun hb => by (have hq := hb; try simp only [zbA] at hq); exact rGtr rfl (evg rfl hb) rfl) ?_
    refine st rfl rfl rfl rfl (rOrB rfl rfl rfl rfl) ?_
    refine tr_cond_bool rfl (fun h4 => ?_) (fun h4 => ?_)
    · try simp only [zbA] at h4
      omega --done
    · try simp only [zbA] at h4
      refine tr_skip ?_
      refine tr_seq ?_
      refine tr_seq ?_
      refine tr_region fun _ _ _ => ?_
      refine pu rfl rfl rfl rfl rfl ?_
      refine st rfl rfl rfl rfl (rLen rfl rfl) ?_
      refine pu rfl rfl rfl rfl rfl ?_
      refine tr_block ?_
      refine tr_loop1 (fun (k : Int) => [(34, .int .i64 k), (1, .int .i64 n), (2, .slice Al nl cl), (3, .pointer (some p0)), (6, .pointer (some p0a)), (8, .pointer (some g.p)), (32, .slice Al nl cl), (33, .int .i64 nl)]) (fun (k : Int) => [gfN g, blk p0 24 [.int .i64 p, .int .i64 m, .slice A mod.length c], blk p0a 27 [.int .i64 0, .int .i64 0, .slice none 0 0, .int .i64 0, .slice none 0 0], ro A (ints mod), ro Al (ints l)]) (fun (k : Int) => 0 ≤ k ∧ k ≤ nl) (fun (k : Int) => (nl - k).toNat) (0) ⟨rfl, rfl, rfl, rfl, rfl, rfl, rfl, rfl, trivial⟩ (by first | exact cs _ _ | exact CSub.refl _) (by omega) (fun k hI => ?_)
      refine tr_seq ?_
      refine tr_region fun _ _ _ => ?_
      refine pu rfl rfl rfl rfl rfl ?_
      refine tr_seq ?_
      refine tr_cond_bool rfl (fun h7 => ?_) (fun h7 => ?_)
      · try simp only [zbA] at h7
        refine tr_skip ?_
        refine tr_seq ?_
        refine tr_block ?_
        refine tr_seq ?_
        refine tr_region fun _ _ _ => ?_
        refine st rfl rfl rfl rfl (rIdxI rfl rfl rfl (by omega) (by omega) (by omega)) ?_
        refine st rfl rfl rfl rfl (rLdI rfl rfl (by omega)) ?_
        refine pu rfl rfl rfl rfl rfl ?_
        refine tr_seq ?_
        refine tr_region fun _ _ _ => ?_
        iterate 2 refine pu rfl rfl rfl rfl rfl ?_
        refine ef rfl rfl (eCallV rfl rfl rfl (gf_Is g _) ⟨rfl, rfl, trivial⟩ ?_) 
        refine st rfl rfl rfl rfl (rNotB rfl rfl) ?_
        refine tr_cond_bool rfl (fun h9 => ?_) (fun h9 => ?_)
        · try simp only [zbA] at h9
          have hb := hin.get (by omega) k.toNat
          have heq := hg.eq
          rw [heq] at h9
          omega --done
        · try simp only [zbA] at h9
          refine tr_skip ?_
          refine tr_region fun _ _ _ => ?_
          refine st rfl rfl rfl rfl (rAdd rfl rfl rfl (by omega) (by omega)) ?_
          refine pu rfl rfl rfl rfl rfl ?_
          refine ⟨k + 1, ⟨rfl, rfl, rfl, rfl, rfl, rfl, rfl, rfl, trivial⟩, by first | exact cs _ _ | exact CSub.refl _, ?_⟩
          omega
      · try simp only [zbA] at h7
        refine tr_exit ?_
        refine tr_seq ?_
        refine tr_region fun _ _ _ => ?_
        iterate 4 refine pu rfl rfl rfl rfl rfl ?_
        refine ef rfl rfl (eCall1 rfl rfl rfl (cyc_around g hg n hn1 (by omega)) ⟨rfl, rfl, trivial⟩ ?_) 
        rintro _ _ ⟨B12, rfl, rfl⟩
        refine ef rfl rfl (eCall1 rfl rfl rfl (poly_Gcd g hg _ _ _ l hnl (by omega) B12 _ _ (aroundL p m mod n.toNat) rfl (by rw [around_length]; omega) (.inr (by rw [pol_around (by omega)]; exact xn1_ne (by omega)))) ⟨rfl, rfl, rfl, trivial⟩ ?_) 
        rintro _ _ ⟨Bg, cg, rfl, rfl⟩
        refine pu rfl rfl rfl rfl rfl ?_
        simp only [pol_around (p := p) (m := m) (mod := mod) (show 1 ≤ n.toNat by omega)]
        generalize hgen : (il (Po.gcd (pol l : Po (El p m mod)) (xn1 n.toNat))) = gen at *
        refine tr_seq ?_
        refine tr_region fun _ _ _ => ?_
        refine pu rfl rfl rfl rfl rfl ?_
        refine tr_seq ?_
        refine tr_seq ?_
        refine tr_region fun _ _ _ => ?_
        refine pu rfl rfl rfl rfl rfl ?_
        refine st rfl rfl rfl rfl (rAdd rfl rfl rfl (by omega) (by omega)) ?_
        refine pu rfl rfl rfl rfl rfl ?_
        refine st rfl rfl rfl rfl (rLen rfl rfl) ?_
        refine st rfl rfl rfl rfl (rSub rfl rfl rfl (by omega) (by omega)) ?_
        refine pu rfl rfl rfl rfl rfl ?_
        refine tr_block ?_
        refine tr_nilR 22 3 ?_
        refine tr_loop4 (fun (k : Int) (AQ : Option Addr) (cq : Nat) (qs : List RowM) => [(12, .slice Bg gen.length cg), (13, .slice AQ qs.length cq), (54, .int .i64 (n + 1 - gen.length)), (55, .int .i64 k), (1, .int .i64 n), (3, .pointer (some p0)), (6, .pointer (some p0a))]) (fun (k : Int) (AQ : Option Addr) (cq : Nat) (qs : List RowM) => [ow AQ 22 cq (hdrs qs), rowsCh 3 qs, ow Bg 3 cg (ints gen), gfN g, blk p0 24 [.int .i64 p, .int .i64 m, .slice A mod.length c], blk p0a 27 [.int .i64 0, .int .i64 0, .slice none 0 0, .int .i64 0, .slice none 0 0], ro A (ints mod), ro Al (ints l)]) (fun (k : Int) (AQ : Option Addr) (cq : Nat) (qs : List RowM) => (0 ≤ k ∧ k ≤ n + 1 - gen.length) ∧ xss qs = (List.range k.toNat).map (shR n.toNat gen)) (fun (k : Int) (AQ : Option Addr) (cq : Nat) (qs : List RowM) => (n + 1 - gen.length - k).toNat) (0) (none) (0) ([]) ⟨rfl, rfl, rfl, rfl, rfl, rfl, rfl, trivial⟩ (by first | exact cs _ _ | exact CSub.refl _) (⟨⟨by omega, by omega⟩, rfl⟩) (fun k AQ cq qs hI => ?_)
        obtain ⟨⟨hk0, hk1⟩, hqs⟩ := hI
        have hql : qs.length = k.toNat := by have := congrArg List.length hqs; simpa using this
        refine tr_seq ?_
        refine tr_region fun _ _ _ => ?_
        refine pu rfl rfl rfl rfl rfl ?_
        refine tr_seq ?_
        refine tr_cond_bool rfl (fun h15 => ?_) (fun h15 => ?_)
        · try simp only [zbA] at h15
          refine tr_skip ?_
          refine tr_seq ?_
          refine tr_block ?_
          refine tr_seq ?_
          refine tr_region fun _ _ _ => ?_
          iterate 2 refine pu rfl rfl rfl rfl rfl ?_
          refine tr_seq ?_
          refine tr_region fun _ _ _ => ?_
          refine pu rfl rfl rfl rfl rfl ?_
          refine ef rfl rfl (eMakeI rfl rfl rfl rfl rfl (by omega) (by omega) (by omega) (fun A17 => ?_)) 
          refine pu rfl rfl rfl rfl rfl ?_
          refine tr_seq ?_
          refine tr_region fun _ _ _ => ?_
          iterate 2 refine pu rfl rfl rfl rfl rfl ?_
          refine st rfl rfl rfl rfl (rCut rfl rfl rfl (by omega) (by omega) (by omega)) ?_
          refine pu rfl rfl rfl rfl rfl ?_
          refine ef rfl rfl (eCopyI rfl rfl rfl rfl rfl rfl (by first | omega | (simp; omega)) (by first | omega | (simp; omega)) ?_) 
          rw [shR_def]
          refine tr_region fun _ _ _ => ?_
          iterate 2 refine pu rfl rfl rfl rfl rfl ?_
          refine ef rfl rfl (eLit1 rfl rfl rfl rfl rfl (fun A19 => ?_)) 
          refine ef rfl rfl (eAppRn (shR n.toNat gen k.toNat) (shR_length (by omega)).symm rfl rfl rfl rfl rfl (by first | rfl | simp) (by omega) (fun A19a c19a => ?_)) 
          refine pu rfl rfl rfl rfl rfl ?_
          refine tr_region fun _ _ _ => ?_
          refine st rfl rfl rfl rfl (rAdd rfl rfl rfl (by omega) (by omega)) ?_
          refine pu rfl rfl rfl rfl rfl ?_
          refine ⟨k + 1, A19a, c19a, qs ++ [⟨A17, n.toNat, shR n.toNat gen k.toNat⟩], ⟨rfl, rfl, rfl, rfl, rfl, rfl, rfl, trivial⟩, by exact rows_app, ?_⟩
          refine ⟨⟨⟨by omega, by omega⟩, ?_⟩, by omega⟩
          rw [xss_snoc, hqs, show (k + 1).toNat = k.toNat + 1 by omega, List.range_succ, List.map_append]
          rfl
        · try simp only [zbA] at h15
          refine tr_exit ?_
          refine tr_seq ?_
          have hke : k = n + 1 - gen.length := by omega
          have hgdq : Gd (pw p m) n.toNat qs := by
            refine (Gd_iff (by omega)).2 ⟨fun r hr => ?_, fun r hr => ?_⟩
            · rw [hqs] at hr
              obtain ⟨j, hj, rfl⟩ := List.mem_map.1 hr
              rw [List.mem_range] at hj
              rw [shR_length (by omega)]; omega
            · rw [hqs] at hr
              obtain ⟨j, hj, rfl⟩ := List.mem_map.1 hr
              rw [List.mem_range] at hj
              exact shR_in (by omega) (by omega) hgi
          refine tr_region fun _ _ _ => ?_
          refine st rfl rfl rfl rfl (rLdS rfl rfl rfl) ?_
          iterate 2 refine pu rfl rfl rfl rfl rfl ?_
          refine st rfl rfl rfl rfl (rBuild rfl rfl) ?_
          refine ef rfl rfl (eCall3 rfl rfl rfl (code_New _ _ _ _ _ n AQ _ cq qs rfl (by omega) hn1 hn9 hgdq) ⟨rfl, rfl, trivial⟩ ?_) 
          rintro _ _ _ _ ⟨Bm, cm, B, r3, rfl, rfl, rfl, rfl, hC⟩
          iterate 2 refine pu rfl rfl rfl rfl rfl ?_
          refine ef rfl rfl (eStS rfl rfl rfl rfl rfl rfl ?_) 
          refine pu rfl rfl rfl rfl rfl ?_
          have hW : ∀ u, Vc.SpL (vsR qs : List (Vc (El p m mod))) u ↔ CyW n.toNat (Po.gcd (pol l : Po (El p m mod)) (xn1 n.toNat)) u := by
            have hlen : Po.len (Po.gcd (pol l : Po (El p m mod)) (xn1 n.toNat)) = (gen.length - 1) + 1 := by rw [← il_length, hgen]; omega
            refine span_shifts hlen (by omega) (by rw [vsR_length, hql]; omega) fun i hi j => ?_
            rw [vsR_get, ← xss_getD, hqs, List.getD_eq_getElem?_getD, List.getElem?_map, List.getElem?_range (by omega)]
            rw [← hgen]
            exact shR_cf (by rw [hgen]; omega) j
          exact tr_ret ⟨trivial, _, _, (.cell rfl (cellS rfl) (.tmp rfl .nil)), ⟨_, _, _, rfl, Bm, cm, B, r3, rfl, rfl, rfl, rfl, hC.iff hW⟩, cs _ _, trivial, trivial, trivial, trivial⟩
theorem chkF_zero {p m : Int} {mod : List Int} (h : FldR p m mod) : chkF p m mod = 0 := (chkF_cases p m mod).elim (·.2) (fun k => absurd h k.1)
end Go.Proofs.YtgnmcoegdogfgaaGreat

set_option linter.unusedSimpArgs false
set_option linter.unusedVariables false
set_option maxRecDepth 100000
namespace Go.Proofs.YtgnmcoegdogfgaaGreat
open Go.RowKit
theorem fld_CheckN_ent : Enters Tryz.prog 51 := enters_of Tryz.func51 (by kernel_rfl) (by kernel_rfl)
theorem fld_CheckN (p m : Int) (A : Option Addr) (c : Nat) (mod : List Int) (hl9 : mod.length ≤ 17592186044415) (hsh : bShp p m mod = false) :
    Pure Tryz.prog 51 #[.agg #[.int .i64 p, .int .i64 m, .slice A mod.length c]] [ro A (ints mod)] (isV (.int .i64 1)) := by
  refine pure_of (args := [.agg #[.int .i64 p, .int .i64 m, .slice A mod.length c]]) 16 Tryz.func51 rfl rfl rfl fld_CheckN_ent ⟨id, trivial⟩ (fun w0 => ?_)
  refine tr_seq ?_
  refine tr_region fun _ _ _ => ?_
  refine ef rfl rfl (eBox rfl rfl rfl rfl rfl (fun p0 => ?_)) 
  refine pu rfl rfl rfl rfl rfl ?_
  refine tr_seq ?_
  refine tr_seq ?_
  refine tr_draw [0, 1, 2, 3, 4, 5, 6, 7, 8, 9, 10, 11, 12] [] mixed (by kernel_rfl) fun _ _ _ => ?_
  refine st rfl rfl rfl rfl (rLdS rfl rfl rfl) ?_
  refine ef rfl rfl (eCallV rfl rfl rfl (fld_shape _ _ _ _ _ (by omega)) ⟨rfl, trivial⟩ ?_) 
  refine st rfl rfl rfl rfl (rNotB rfl rfl) ?_
  refine pu rfl rfl rfl rfl rfl ?_
  refine skF rfl rfl (by simp [hsh]) rfl rfl ?_
  refine skF rfl rfl (by simp [hsh]) rfl rfl ?_
  refine skF rfl rfl (by simp [hsh]) rfl rfl ?_
  refine skF rfl rfl (by simp [hsh]) rfl rfl ?_
  refine skF rfl rfl (by simp [hsh]) rfl rfl ?_
  refine skF rfl rfl (by simp [hsh]) rfl rfl ?_
  refine skF rfl rfl (by simp [hsh]) rfl rfl ?_
  refine skF rfl rfl (by simp [hsh]) rfl rfl ?_
  refine st rfl rfl rfl rfl (rPick1 rfl rfl (by simp [hsh]) rfl) ?_
  refine tr_cond_bool rfl (fun h1 => ?_) (fun h1 => ?_)
  · try simp only [zbA] at h1
    refine tr_seq ?_
    refine tr_region fun _ _ _ => ?_
    refine pu rfl rfl rfl rfl rfl ?_
    exact tr_ret ⟨trivial, _, _, rfl, ⟨rfl, rfl⟩, CSub.nil _, trivial⟩
  · try simp only [zbA] at h1
    first | exact absurd trivial h1 | exact absurd rfl h1 | omega | (exact absurd h1 (by simp)) --done
theorem fld_CheckS_ent : Enters Tryz.prog 51 := enters_of Tryz.func51 (by kernel_rfl) (by kernel_rfl)
theorem fld_CheckS (p m : Int) (A : Option Addr) (c : Nat) (mod : List Int) (hl9 : mod.length ≤ 17592186044415) (hsh : bShp p m mod = true) :
    Pure Tryz.prog 51 #[.agg #[.int .i64 p, .int .i64 m, .slice A mod.length c]] [ro A (ints mod)] (isV (.int .i64 (chkF p m mod))) := by
  have hs1 := ((bShp_iff p m mod).1 hsh).1
  have hs2 := (bShp_iff p m mod).1 hsh
  refine pure_of (args := [.agg #[.int .i64 p, .int .i64 m, .slice A mod.length c]]) 16 Tryz.func51 rfl rfl rfl fld_CheckS_ent ⟨id, trivial⟩ (fun w0 => ?_)
  refine tr_seq ?_
  refine tr_region fun _ _ _ => ?_
  refine ef rfl rfl (eBox rfl rfl rfl rfl rfl (fun p0 => ?_)) 
  refine pu rfl rfl rfl rfl rfl ?_
  refine tr_seq ?_
  refine tr_seq ?_
  refine tr_draw [0, 1, 2, 3, 4, 5, 6, 7, 8, 9, 10, 11, 12] [] mixed (by kernel_rfl) fun _ _ _ => ?_
  refine st rfl rfl rfl rfl (rLdS rfl rfl rfl) ?_
  refine ef rfl rfl (eCallV rfl rfl rfl (fld_shape _ _ _ _ _ (by omega)) ⟨rfl, trivial⟩ ?_) 
  refine st rfl rfl rfl rfl (rNotB rfl rfl) ?_
  refine pu rfl rfl rfl rfl rfl ?_
  refine stT rfl rfl rfl (by simp [hsh]) rfl rfl (rLdS rfl rfl rfl) ?_
  refine stT rfl rfl rfl (by simp [hsh]) rfl rfl (rFld rfl rfl) ?_
  refine stT rfl rfl rfl (by simp [hsh]) rfl rfl (rLdF rfl rfl rfl) ?_
  refine stT rfl rfl rfl (by simp [hsh]) rfl rfl (rFld rfl rfl) ?_
  refine stT rfl rfl rfl (by simp [hsh]) rfl rfl (rLdF rfl rfl rfl) ?_
  refine efT rfl rfl rfl (by simp [hsh]) (eCallV rfl rfl rfl (fld_order _ _) ⟨rfl, rfl, trivial⟩ ?_) 
  refine efT rfl rfl rfl (by simp [hsh]) (eCall1 rfl rfl rfl (fld_gen _ _ _ _ _ hs1 _ hs1.ord) ⟨rfl, rfl, trivial⟩ ?_) 
  rintro _ _ ⟨B, l, cb, rfl, hl, hn, rfl⟩
  refine stT rfl rfl rfl (by simp [hsh]) rfl rfl (rNilS rfl rfl rfl) ?_
  refine st rfl rfl rfl rfl (rPick0 rfl rfl (by simp [hsh]) rfl) ?_
  refine tr_cond_bool rfl (fun h1 => ?_) (fun h1 => ?_)
  · try simp only [zbA] at h1
    refine tr_emptyI (A := B) (xs := l) (fun hemp => ?_)
    have hl0 := hemp h1
    refine tr_seq ?_
    refine tr_region fun _ _ _ => ?_
    refine pu rfl rfl rfl rfl rfl ?_
    rw [hl0] at hl
    exact tr_ret ⟨trivial, _, _, rfl, ⟨by rw [chkF_no fun h => hl.nil (fldN_iff.2 h).2], rfl⟩, CSub.nil _, trivial⟩
  · try simp only [zbA] at h1
    refine tr_skip ?_
    refine tr_seq ?_
    refine tr_region fun _ _ _ => ?_
    refine pu rfl rfl rfl rfl rfl ?_
    have hgn : l ≠ [] := fun h => by
      rw [hn h] at h1
      simp at h1
    have hF : FldR p m mod := fldN_iff.1 ⟨hs2, by
      rcases hl with ⟨x, h⟩ | h
      · exact ⟨x, l, h⟩
      · exact absurd h.1 hgn⟩
    exact tr_ret ⟨trivial, _, _, rfl, ⟨by rw [chkF_ok hF], rfl⟩, CSub.nil _, trivial⟩
theorem fld_Check (p m : Int) (A : Option Addr) (c : Nat) (mod : List Int) (hl9 : mod.length ≤ 17592186044415) : Pure Tryz.prog 51 #[.agg #[.int .i64 p, .int .i64 m, .slice A mod.length c]] [ro A (ints mod)] (isV (.int .i64 (chkF p m mod))) := by
  cases hsh : bShp p m mod with
  | true => exact fld_CheckS p m A c mod hl9 hsh
  | false =>
    have h := fld_CheckN p m A c mod hl9 hsh
    rwa [← chkF_no (p := p) (m := m) (mod := mod) (fun h => by rw [bShp_true h.1] at hsh; cases hsh)] at h
theorem ref_SCheckE_ent : Enters Tryz.prog 57 := enters_of Tryz.func57 (by kernel_rfl) (by kernel_rfl)
theorem ref_SCheckE (p m : Int) (A : Option Addr) (c : Nat) (mod : List Int) (hl9 : mod.length ≤ 17592186044415) [hF : IsF p m mod] (w : Int) (Aa : Option Addr) (n ca : Nat) (rs : List RowM) (hn : n = rs.length) (h9 : rs.length ≤ 17592186044415) (h8 : ∀ r ∈ rs, r.xs.length ≤ 17592186044415) (hE : rowsC (pw p m) w (xss rs) ≠ 0) :
    Pure Tryz.prog 57 #[.agg #[.int .i64 p, .int .i64 m, .slice A mod.length c], .agg #[.int .i64 w, .slice Aa n ca]] [ro A (ints mod), ro Aa (hdrs rs), rowsR rs] (isV (.int .i64 (rowsC (pw p m) w (xss rs)))) := by
  refine pure_of (args := [.agg #[.int .i64 p, .int .i64 m, .slice A mod.length c], .agg #[.int .i64 w, .slice Aa n ca]]) 28 Tryz.func57 rfl rfl rfl ref_SCheckE_ent ⟨id, id, id, trivial⟩ (fun w0 => ?_)
  refine tr_seq ?_
  refine tr_region fun _ _ _ => ?_
  refine ef rfl rfl (eBox rfl rfl rfl rfl rfl (fun p0 => ?_)) 
  refine ef rfl rfl (eBox rfl rfl rfl rfl rfl (fun p0a => ?_)) 
  refine pu rfl rfl rfl rfl rfl ?_
  refine tr_seq ?_
  refine tr_region fun _ _ _ => ?_
  refine st rfl rfl rfl rfl (rLdS rfl rfl rfl) ?_
  refine st rfl rfl rfl rfl (rLdS rfl rfl rfl) ?_
  refine ef rfl rfl (eCallV rfl rfl rfl (ref_RCheckOk _ _ _ _ _ hl9 hF.out (pw p m) hF.ord w Aa _ ca rs hn h9 h8) ⟨rfl, rfl, trivial⟩ ?_) 
  refine pu rfl rfl rfl rfl rfl ?_
  refine tr_seq ?_
  refine tr_seq ?_
  refine tr_region fun _ _ _ => ?_
  iterate 2 refine pu rfl rfl rfl rfl rfl ?_
  refine tr_cond_bool rfl (fun h2 => ?_) (fun h2 => ?_)
  · try simp only [zbA] at h2
    refine tr_seq ?_
    refine tr_region fun _ _ _ => ?_
    iterate 2 refine pu rfl rfl rfl rfl rfl ?_
    exact tr_ret ⟨trivial, _, _, rfl, ⟨rfl, rfl⟩, CSub.nil _, trivial⟩
  · try simp only [zbA] at h2
    omega --done
theorem ref_SCheckF_ent : Enters Tryz.prog 57 := enters_of Tryz.func57 (by kernel_rfl) (by kernel_rfl)
theorem ref_SCheckF (p m : Int) (A : Option Addr) (c : Nat) (mod : List Int) (hl9 : mod.length ≤ 17592186044415) [hF : IsF p m mod] (w : Int) (Aa : Option Addr) (n ca : Nat) (rs : List RowM) (hn : n = rs.length) (h9 : rs.length ≤ 17592186044415) (h8 : ∀ r ∈ rs, r.xs.length ≤ 17592186044415) (hE : rowsC (pw p m) w (xss rs) = 0) (hf : ¬ formP p m mod w.toNat rs) :
    Pure Tryz.prog 57 #[.agg #[.int .i64 p, .int .i64 m, .slice A mod.length c], .agg #[.int .i64 w, .slice Aa n ca]] [ro A (ints mod), ro Aa (hdrs rs), rowsR rs] (isV (.int .i64 5)) := by
  obtain ⟨hgd, hw0, hw9, hr9⟩ := rowsC_Gd (p := p) (m := m) hE
  refine pure_of (args := [.agg #[.int .i64 p, .int .i64 m, .slice A mod.length c], .agg #[.int .i64 w, .slice Aa n ca]]) 28 Tryz.func57 rfl rfl rfl ref_SCheckF_ent ⟨id, id, id, trivial⟩ (fun w0 => ?_)
  refine tr_seq ?_
  refine tr_region fun _ _ _ => ?_
  refine ef rfl rfl (eBox rfl rfl rfl rfl rfl (fun p0 => ?_)) 
  refine ef rfl rfl (eBox rfl rfl rfl rfl rfl (fun p0a => ?_)) 
  refine pu rfl rfl rfl rfl rfl ?_
  refine tr_seq ?_
  refine tr_region fun _ _ _ => ?_
  refine st rfl rfl rfl rfl (rLdS rfl rfl rfl) ?_
  refine st rfl rfl rfl rfl (rLdS rfl rfl rfl) ?_
  refine ef rfl rfl (eCallV rfl rfl rfl (ref_RCheckOk _ _ _ _ _ hl9 hF.out (pw p m) hF.ord w Aa _ ca rs hn h9 h8) ⟨rfl, rfl, trivial⟩ ?_) 
  refine pu rfl rfl rfl rfl rfl ?_
  refine tr_seq ?_
  refine tr_seq ?_
  refine tr_region fun _ _ _ => ?_
  iterate 2 refine pu rfl rfl rfl rfl rfl ?_
  refine tr_cond_bool rfl (fun h2 => ?_) (fun h2 => ?_)
  · try simp only [zbA] at h2
    omega --done
  · try simp only [zbA] at h2
    refine tr_skip ?_
    refine tr_seq ?_
    refine tr_region fun _ _ _ => ?_
    refine st rfl rfl rfl rfl (rLdS rfl rfl rfl) ?_
    refine st rfl rfl rfl rfl (rFld rfl rfl) ?_
    refine st rfl rfl rfl rfl (rLdF rfl rfl rfl) ?_
    refine st rfl rfl rfl rfl (rFld rfl rfl) ?_
    refine st rfl rfl rfl rfl (rLdF rfl rfl rfl) ?_
    refine ef rfl rfl (eCall3 rfl rfl rfl (ref_RCanon _ _ _ _ _ w hw0 (by omega) Aa _ ca rs hn (by omega) hgd) ⟨rfl, rfl, rfl, trivial⟩ ?_) 
    rintro _ _ _ _ ⟨r3, B, cg, Bp, cp, ps, rfl, rfl, rfl, rfl, hR, hk⟩
    iterate 5 refine pu rfl rfl rfl rfl rfl ?_
    refine tr_seq ?_
    refine tr_seq ?_
    refine tr_region fun _ _ _ => ?_
    refine pu rfl rfl rfl rfl rfl ?_
    refine st rfl rfl rfl rfl (rFld rfl rfl) ?_
    refine st rfl rfl rfl rfl (rLdF rfl rfl rfl) ?_
    refine ef rfl rfl (eCallV rfl rfl rfl (ref_SameRows _ _ _ r3 rfl _ _ _ rs hn (by omega) (hR.good.h8 (by omega))) ⟨rfl, rfl, trivial⟩ ?_) 
    refine st rfl rfl rfl rfl (rNotB rfl rfl) ?_
    refine tr_cond_bool rfl (fun h5 => ?_) (fun h5 => ?_)
    · try simp only [zbA] at h5
      refine tr_seq ?_
      refine tr_region fun _ _ _ => ?_
      refine pu rfl rfl rfl rfl rfl ?_
      exact tr_ret ⟨trivial, _, _, rfl, ⟨rfl, rfl⟩, CSub.nil _, trivial⟩
    · try simp only [zbA] at h5
      exact absurd ((hR.form_iff hgd).1 (by simpa [xss] using h5)) hf --done
theorem ref_SCheckG_ent : Enters Tryz.prog 57 := enters_of Tryz.func57 (by kernel_rfl) (by kernel_rfl)
theorem ref_SCheckG (p m : Int) (A : Option Addr) (c : Nat) (mod : List Int) (hl9 : mod.length ≤ 17592186044415) [hF : IsF p m mod] (w : Int) (Aa : Option Addr) (n ca : Nat) (rs : List RowM) (hn : n = rs.length) (h9 : rs.length ≤ 17592186044415) (h8 : ∀ r ∈ rs, r.xs.length ≤ 17592186044415) (hE : rowsC (pw p m) w (xss rs) = 0) (hf : formP p m mod w.toNat rs) :
    Pure Tryz.prog 57 #[.agg #[.int .i64 p, .int .i64 m, .slice A mod.length c], .agg #[.int .i64 w, .slice Aa n ca]] [ro A (ints mod), ro Aa (hdrs rs), rowsR rs] (isV (.int .i64 0)) := by
  obtain ⟨hgd, hw0, hw9, hr9⟩ := rowsC_Gd (p := p) (m := m) hE
  refine pure_of (args := [.agg #[.int .i64 p, .int .i64 m, .slice A mod.length c], .agg #[.int .i64 w, .slice Aa n ca]]) 28 Tryz.func57 rfl rfl rfl ref_SCheckG_ent ⟨id, id, id, trivial⟩ (fun w0 => ?_)
  refine tr_seq ?_
  refine tr_region fun _ _ _ => ?_
  refine ef rfl rfl (eBox rfl rfl rfl rfl rfl (fun p0 => ?_)) 
  refine ef rfl rfl (eBox rfl rfl rfl rfl rfl (fun p0a => ?_)) 
  refine pu rfl rfl rfl rfl rfl ?_
  refine tr_seq ?_
  refine tr_region fun _ _ _ => ?_
  refine st rfl rfl rfl rfl (rLdS rfl rfl rfl) ?_
  refine st rfl rfl rfl rfl (rLdS rfl rfl rfl) ?_
  refine ef rfl rfl (eCallV rfl rfl rfl (ref_RCheckOk _ _ _ _ _ hl9 hF.out (pw p m) hF.ord w Aa _ ca rs hn h9 h8) ⟨rfl, rfl, trivial⟩ ?_) 
  refine pu rfl rfl rfl rfl rfl ?_
  refine tr_seq ?_
  refine tr_seq ?_
  refine tr_region fun _ _ _ => ?_
  iterate 2 refine pu rfl rfl rfl rfl rfl ?_
  refine tr_cond_bool rfl (fun h2 => ?_) (fun h2 => ?_)
  · try simp only [zbA] at h2
    omega --done
  · try simp only [zbA] at h2
    refine tr_skip ?_
    refine tr_seq ?_
    refine tr_region fun _ _ _ => ?_
    refine st rfl rfl rfl rfl (rLdS rfl rfl rfl) ?_
    refine st rfl rfl rfl rfl (rFld rfl rfl) ?_
    refine st rfl rfl rfl rfl (rLdF rfl rfl rfl) ?_
    refine st rfl rfl rfl rfl (rFld rfl rfl) ?_
    refine st rfl rfl rfl rfl (rLdF rfl rfl rfl) ?_
    refine ef rfl rfl (eCall3 rfl rfl rfl (ref_RCanon _ _ _ _ _ w hw0 (by omega) Aa _ ca rs hn (by omega) hgd) ⟨rfl, rfl, rfl, trivial⟩ ?_) 
    rintro _ _ _ _ ⟨r3, B, cg, Bp, cp, ps, rfl, rfl, rfl, rfl, hR, hk⟩
    iterate 5 refine pu rfl rfl rfl rfl rfl ?_
    refine tr_seq ?_
    refine tr_seq ?_
    refine tr_region fun _ _ _ => ?_
    refine pu rfl rfl rfl rfl rfl ?_
    refine st rfl rfl rfl rfl (rFld rfl rfl) ?_
    refine st rfl rfl rfl rfl (rLdF rfl rfl rfl) ?_
    refine ef rfl rfl (eCallV rfl rfl rfl (ref_SameRows _ _ _ r3 rfl _ _ _ rs hn (by omega) (hR.good.h8 (by omega))) ⟨rfl, rfl, trivial⟩ ?_) 
    refine st rfl rfl rfl rfl (rNotB rfl rfl) ?_
    refine tr_cond_bool rfl (fun h5 => ?_) (fun h5 => ?_)
    · try simp only [zbA] at h5
      exact absurd ((hR.form_iff hgd).2 hf) (by simpa [xss] using h5) --done
    · try simp only [zbA] at h5
      refine tr_skip ?_
      refine tr_seq ?_
      refine tr_region fun _ _ _ => ?_
      refine pu rfl rfl rfl rfl rfl ?_
      exact tr_ret ⟨trivial, _, _, rfl, ⟨rfl, rfl⟩, CSub.nil _, trivial⟩
theorem ref_CCheckNo_ent : Enters Tryz.prog 22 := enters_of Tryz.func22 (by kernel_rfl) (by kernel_rfl)
theorem ref_CCheckNo (p m : Int) (A : Option Addr) (c : Nat) (mod : List Int) (hl9 : mod.length ≤ 17592186044415) (hF : ¬ FldR p m mod) (w : Int) (Aa : Option Addr) (n ca : Nat) (rs : List RowM) (hn : n = rs.length) (h9 : rs.length ≤ 17592186044415) (h8 : ∀ r ∈ rs, r.xs.length ≤ 17592186044415) :
    Pure Tryz.prog 22 #[.agg #[.int .i64 p, .int .i64 m, .slice A mod.length c, .int .i64 w, .slice Aa n ca]] [ro A (ints mod), ro Aa (hdrs rs), rowsR rs] (isV (.int .i64 1)) := by
  have hch := chkF_no hF
  refine pure_of (args := [.agg #[.int .i64 p, .int .i64 m, .slice A mod.length c, .int .i64 w, .slice Aa n ca]]) 26 Tryz.func22 rfl rfl rfl ref_CCheckNo_ent ⟨id, id, id, trivial⟩ (fun w0 => ?_)
  refine tr_seq ?_
  refine tr_region fun _ _ _ => ?_
  refine ef rfl rfl (eBox rfl rfl rfl rfl rfl (fun p0 => ?_)) 
  refine pu rfl rfl rfl rfl rfl ?_
  refine tr_seq ?_
  refine tr_region fun _ _ _ => ?_
  refine st rfl rfl rfl rfl (rFld rfl rfl) ?_
  refine st rfl rfl rfl rfl (rLdSF rfl rfl) ?_
  refine ef rfl rfl (eCallV rfl rfl rfl (ref_fldCheck _ _ _ _ _ hl9) ⟨rfl, trivial⟩ ?_) 
  refine pu rfl rfl rfl rfl rfl ?_
  refine tr_seq ?_
  refine tr_seq ?_
  refine tr_region fun _ _ _ => ?_
  iterate 2 refine pu rfl rfl rfl rfl rfl ?_
  refine tr_cond_bool rfl (fun h2 => ?_) (fun h2 => ?_)
  · try simp only [zbA] at h2
    refine tr_seq ?_
    refine tr_region fun _ _ _ => ?_
    iterate 2 refine pu rfl rfl rfl rfl rfl ?_
    exact tr_ret ⟨trivial, _, _, rfl, ⟨by rw [hch], rfl⟩, CSub.nil _, trivial⟩
  · try simp only [zbA] at h2
    omega --done
theorem ref_CCheckL_ent : Enters Tryz.prog 22 := enters_of Tryz.func22 (by kernel_rfl) (by kernel_rfl)
theorem ref_CCheckL (p m : Int) (A : Option Addr) (c : Nat) (mod : List Int) (hl9 : mod.length ≤ 17592186044415) [hF : IsF p m mod] (w : Int) (Aa : Option Addr) (n ca : Nat) (rs : List RowM) (hn : n = rs.length) (h9 : rs.length ≤ 17592186044415) (h8 : ∀ r ∈ rs, r.xs.length ≤ 17592186044415) (hb : w < 1 ∨ w > 64) :
    Pure Tryz.prog 22 #[.agg #[.int .i64 p, .int .i64 m, .slice A mod.length c, .int .i64 w, .slice Aa n ca]] [ro A (ints mod), ro Aa (hdrs rs), rowsR rs] (isV (.int .i64 4)) := by
  have hch := chkF_ok hF.out
  refine pure_of (args := [.agg #[.int .i64 p, .int .i64 m, .slice A mod.length c, .int .i64 w, .slice Aa n ca]]) 26 Tryz.func22 rfl rfl rfl ref_CCheckL_ent ⟨id, id, id, trivial⟩ (fun w0 => ?_)
  refine tr_seq ?_
  refine tr_region fun _ _ _ => ?_
  refine ef rfl rfl (eBox rfl rfl rfl rfl rfl (fun p0 => ?_)) 
  refine pu rfl rfl rfl rfl rfl ?_
  refine tr_seq ?_
  refine tr_region fun _ _ _ => ?_
  refine st rfl rfl rfl rfl (rFld rfl rfl) ?_
  refine st rfl rfl rfl rfl (rLdSF rfl rfl) ?_
  refine ef rfl rfl (eCallV rfl rfl rfl (ref_fldCheck _ _ _ _ _ hl9) ⟨rfl, trivial⟩ ?_) 
  refine pu rfl rfl rfl rfl rfl ?_
  refine tr_seq ?_
  refine tr_seq ?_
  refine tr_region fun _ _ _ => ?_
  iterate 2 refine pu rfl rfl rfl rfl rfl ?_
  refine tr_cond_bool rfl (fun h2 => ?_) (fun h2 => ?_)
  · try simp only [zbA] at h2
    omega --done
  · try simp only [zbA] at h2
    refine tr_skip ?_
    refine tr_seq ?_
    refine tr_seq ?_
    refine tr_region fun _ _ _ => ?_
    refine st rfl rfl rfl rfl (rFld rfl rfl) ?_
    refine st rfl rfl rfl rfl (rLdF rfl rfl rfl) ?_
    iterate 2 refine pu rfl rfl rfl rfl rfl ?_
    refine stg rfl rfl rfl rfl rfl (fun hb => by (have hq := hb; try simp only [zbA] at hq); exact rFld rfl rfl) ?_
    refine stg rfl rfl rfl rfl rfl (fun hb => by (have hq := hb; try simp only [zbA] at hq); exact rLdF rfl (evg rfl hb) rfl) ?_
    refine stg rfl rfl rfl rfl rfl (fun hb => by (have hq := hb; try simp only [zbA] at hq); exact rGtr rfl (evg rfl hb) rfl) ?_
    refine st rfl rfl rfl rfl (rOrB rfl rfl rfl rfl) ?_
    refine tr_cond_bool rfl (fun h4 => ?_) (fun h4 => ?_)
    · try simp only [zbA] at h4
      refine tr_seq ?_
      refine tr_region fun _ _ _ => ?_
      refine pu rfl rfl rfl rfl rfl ?_
      exact tr_ret ⟨trivial, _, _, rfl, ⟨rfl, rfl⟩, CSub.nil _, trivial⟩
    · try simp only [zbA] at h4
      omega --done
theorem ref_CCheckE_ent : Enters Tryz.prog 22 := enters_of Tryz.func22 (by kernel_rfl) (by kernel_rfl)
theorem ref_CCheckE (p m : Int) (A : Option Addr) (c : Nat) (mod : List Int) (hl9 : mod.length ≤ 17592186044415) [hF : IsF p m mod] (w : Int) (Aa : Option Addr) (n ca : Nat) (rs : List RowM) (hn : n = rs.length) (h9 : rs.length ≤ 17592186044415) (h8 : ∀ r ∈ rs, r.xs.length ≤ 17592186044415) (hb : ¬ (w < 1 ∨ w > 64)) (hE : rowsC (pw p m) w (xss rs) ≠ 0) :
    Pure Tryz.prog 22 #[.agg #[.int .i64 p, .int .i64 m, .slice A mod.length c, .int .i64 w, .slice Aa n ca]] [ro A (ints mod), ro Aa (hdrs rs), rowsR rs] (isV (.int .i64 (rowsC (pw p m) w (xss rs)))) := by
  have hch := chkF_ok hF.out
  refine pure_of (args := [.agg #[.int .i64 p, .int .i64 m, .slice A mod.length c, .int .i64 w, .slice Aa n ca]]) 26 Tryz.func22 rfl rfl rfl ref_CCheckE_ent ⟨id, id, id, trivial⟩ (fun w0 => ?_)
  refine tr_seq ?_
  refine tr_region fun _ _ _ => ?_
  refine ef rfl rfl (eBox rfl rfl rfl rfl rfl (fun p0 => ?_)) 
  refine pu rfl rfl rfl rfl rfl ?_
  refine tr_seq ?_
  refine tr_region fun _ _ _ => ?_
  refine st rfl rfl rfl rfl (rFld rfl rfl) ?_
  refine st rfl rfl rfl rfl (rLdSF rfl rfl) ?_
  refine ef rfl rfl (eCallV rfl rfl rfl (ref_fldCheck _ _ _ _ _ hl9) ⟨rfl, trivial⟩ ?_) 
  refine pu rfl rfl rfl rfl rfl ?_
  refine tr_seq ?_
  refine tr_seq ?_
  refine tr_region fun _ _ _ => ?_
  iterate 2 refine pu rfl rfl rfl rfl rfl ?_
  refine tr_cond_bool rfl (fun h2 => ?_) (fun h2 => ?_)
  · try simp only [zbA] at h2
    omega --done
  · try simp only [zbA] at h2
    refine tr_skip ?_
    refine tr_seq ?_
    refine tr_seq ?_
    refine tr_region fun _ _ _ => ?_
    refine st rfl rfl rfl rfl (rFld rfl rfl) ?_
    refine st rfl rfl rfl rfl (rLdF rfl rfl rfl) ?_
    iterate 2 refine pu rfl rfl rfl rfl rfl ?_
    refine stg rfl rfl rfl rfl rfl (fun hb => by (have hq := hb; try simp only [zbA] at hq); exact rFld rfl rfl) ?_
    refine stg rfl rfl rfl rfl rfl (fun hb => by (have hq := hb; try simp only [zbA] at hq); exact rLdF rfl (evg rfl hb) rfl) ?_
    refine stg rfl rfl rfl rfl rfl (fun hb => by (have hq := hb; try simp only [zbA] at hq); exact rGtr rfl (evg rfl hb) rfl) ?_
    refine st rfl rfl rfl rfl (rOrB rfl rfl rfl rfl) ?_
    refine tr_cond_bool rfl (fun h4 => ?_) (fun h4 => ?_)
    · try simp only [zbA] at h4
      omega --done
    · try simp only [zbA] at h4
      refine tr_skip ?_
      refine tr_seq ?_
      refine tr_region fun _ _ _ => ?_
      refine st rfl rfl rfl rfl (rFld rfl rfl) ?_
      refine st rfl rfl rfl rfl (rLdSF rfl rfl) ?_
      refine st rfl rfl rfl rfl (rFld rfl rfl) ?_
      refine st rfl rfl rfl rfl (rLdF rfl rfl rfl) ?_
      refine st rfl rfl rfl rfl (rFld rfl rfl) ?_
      refine st rfl rfl rfl rfl (rLdF rfl rfl rfl) ?_
      refine st rfl rfl rfl rfl (rBuild rfl rfl) ?_
      refine ef rfl rfl (eCallV rfl rfl rfl (ref_SCheckE _ _ _ _ _ hl9 w Aa _ ca rs hn h9 h8 hE) ⟨rfl, rfl, trivial⟩ ?_) 
      refine pu rfl rfl rfl rfl rfl ?_
      exact tr_ret ⟨trivial, _, _, rfl, ⟨rfl, rfl⟩, CSub.nil _, trivial⟩
theorem ref_CCheckF_ent : Enters Tryz.prog 22 := enters_of Tryz.func22 (by kernel_rfl) (by kernel_rfl)
theorem ref_CCheckF (p m : Int) (A : Option Addr) (c : Nat) (mod : List Int) (hl9 : mod.length ≤ 17592186044415) [hF : IsF p m mod] (w : Int) (Aa : Option Addr) (n ca : Nat) (rs : List RowM) (hn : n = rs.length) (h9 : rs.length ≤ 17592186044415) (h8 : ∀ r ∈ rs, r.xs.length ≤ 17592186044415) (hb : ¬ (w < 1 ∨ w > 64)) (hE : rowsC (pw p m) w (xss rs) = 0) (hf : ¬ formP p m mod w.toNat rs) :
    Pure Tryz.prog 22 #[.agg #[.int .i64 p, .int .i64 m, .slice A mod.length c, .int .i64 w, .slice Aa n ca]] [ro A (ints mod), ro Aa (hdrs rs), rowsR rs] (isV (.int .i64 5)) := by
  have hch := chkF_ok hF.out
  refine pure_of (args := [.agg #[.int .i64 p, .int .i64 m, .slice A mod.length c, .int .i64 w, .slice Aa n ca]]) 26 Tryz.func22 rfl rfl rfl ref_CCheckF_ent ⟨id, id, id, trivial⟩ (fun w0 => ?_)
  refine tr_seq ?_
  refine tr_region fun _ _ _ => ?_
  refine ef rfl rfl (eBox rfl rfl rfl rfl rfl (fun p0 => ?_)) 
  refine pu rfl rfl rfl rfl rfl ?_
  refine tr_seq ?_
  refine tr_region fun _ _ _ => ?_
  refine st rfl rfl rfl rfl (rFld rfl rfl) ?_
  refine st rfl rfl rfl rfl (rLdSF rfl rfl) ?_
  refine ef rfl rfl (eCallV rfl rfl rfl (ref_fldCheck _ _ _ _ _ hl9) ⟨rfl, trivial⟩ ?_) 
  refine pu rfl rfl rfl rfl rfl ?_
  refine tr_seq ?_
  refine tr_seq ?_
  refine tr_region fun _ _ _ => ?_
  iterate 2 refine pu rfl rfl rfl rfl rfl ?_
  refine tr_cond_bool rfl (fun h2 => ?_) (fun h2 => ?_)
  · try simp only [zbA] at h2
    omega --done
  · try simp only [zbA] at h2
    refine tr_skip ?_
    refine tr_seq ?_
    refine tr_seq ?_
    refine tr_region fun _ _ _ => ?_
    refine st rfl rfl rfl rfl (rFld rfl rfl) ?_
    refine st rfl rfl rfl rfl (rLdF rfl rfl rfl) ?_
    iterate 2 refine pu rfl rfl rfl rfl rfl ?_
    refine stg rfl rfl rfl rfl rfl (fun hb => by (have hq := hb; try simp only [zbA] at hq); exact rFld rfl rfl) ?_
    refine stg rfl rfl rfl rfl rfl (fun hb => by (have hq := hb; try simp only [zbA] at hq); exact rLdF rfl (evg rfl hb) rfl) ?_
    refine stg rfl rfl rfl rfl rfl (fun hb => by (have hq := hb; try simp only [zbA] at hq); exact rGtr rfl (evg rfl hb) rfl) ?_
    refine st rfl rfl rfl rfl (rOrB rfl rfl rfl rfl) ?_
    refine tr_cond_bool rfl (fun h4 => ?_) (fun h4 => ?_)
    · try simp only [zbA] at h4
      omega --done
    · try simp only [zbA] at h4
      refine tr_skip ?_
      refine tr_seq ?_
      refine tr_region fun _ _ _ => ?_
      refine st rfl rfl rfl rfl (rFld rfl rfl) ?_
      refine st rfl rfl rfl rfl (rLdSF rfl rfl) ?_
      refine st rfl rfl rfl rfl (rFld rfl rfl) ?_
      refine st rfl rfl rfl rfl (rLdF rfl rfl rfl) ?_
      refine st rfl rfl rfl rfl (rFld rfl rfl) ?_
      refine st rfl rfl rfl rfl (rLdF rfl rfl rfl) ?_
      refine st rfl rfl rfl rfl (rBuild rfl rfl) ?_
      refine ef rfl rfl (eCallV rfl rfl rfl (ref_SCheckF _ _ _ _ _ hl9 w Aa _ ca rs hn h9 h8 hE hf) ⟨rfl, rfl, trivial⟩ ?_) 
      refine pu rfl rfl rfl rfl rfl ?_
      exact tr_ret ⟨trivial, _, _, rfl, ⟨rfl, rfl⟩, CSub.nil _, trivial⟩
theorem ref_CCheckG_ent : Enters Tryz.prog 22 := enters_of Tryz.func22 (by kernel_rfl) (by kernel_rfl)
theorem ref_CCheckG (p m : Int) (A : Option Addr) (c : Nat) (mod : List Int) (hl9 : mod.length ≤ 17592186044415) [hF : IsF p m mod] (w : Int) (Aa : Option Addr) (n ca : Nat) (rs : List RowM) (hn : n = rs.length) (h9 : rs.length ≤ 17592186044415) (h8 : ∀ r ∈ rs, r.xs.length ≤ 17592186044415) (hb : ¬ (w < 1 ∨ w > 64)) (hE : rowsC (pw p m) w (xss rs) = 0) (hf : formP p m mod w.toNat rs) :
    Pure Tryz.prog 22 #[.agg #[.int .i64 p, .int .i64 m, .slice A mod.length c, .int .i64 w, .slice Aa n ca]] [ro A (ints mod), ro Aa (hdrs rs), rowsR rs] (isV (.int .i64 0)) := by
  have hch := chkF_ok hF.out
  refine pure_of (args := [.agg #[.int .i64 p, .int .i64 m, .slice A mod.length c, .int .i64 w, .slice Aa n ca]]) 26 Tryz.func22 rfl rfl rfl ref_CCheckG_ent ⟨id, id, id, trivial⟩ (fun w0 => ?_)
  refine tr_seq ?_
  refine tr_region fun _ _ _ => ?_
  refine ef rfl rfl (eBox rfl rfl rfl rfl rfl (fun p0 => ?_)) 
  refine pu rfl rfl rfl rfl rfl ?_
  refine tr_seq ?_
  refine tr_region fun _ _ _ => ?_
  refine st rfl rfl rfl rfl (rFld rfl rfl) ?_
  refine st rfl rfl rfl rfl (rLdSF rfl rfl) ?_
  refine ef rfl rfl (eCallV rfl rfl rfl (ref_fldCheck _ _ _ _ _ hl9) ⟨rfl, trivial⟩ ?_) 
  refine pu rfl rfl rfl rfl rfl ?_
  refine tr_seq ?_
  refine tr_seq ?_
  refine tr_region fun _ _ _ => ?_
  iterate 2 refine pu rfl rfl rfl rfl rfl ?_
  refine tr_cond_bool rfl (fun h2 => ?_) (fun h2 => ?_)
  · try simp only [zbA] at h2
    omega --done
  · try simp only [zbA] at h2
    refine tr_skip ?_
    refine tr_seq ?_
    refine tr_seq ?_
    refine tr_region fun _ _ _ => ?_
    refine st rfl rfl rfl rfl (rFld rfl rfl) ?_
    refine st rfl rfl rfl rfl (rLdF rfl rfl rfl) ?_
    iterate 2 refine pu rfl rfl rfl rfl rfl ?_
    refine stg rfl rfl rfl rfl rfl (fun hb => by (have hq := hb; try simp only [zbA] at hq); exact rFld rfl rfl) ?_
    refine stg rfl rfl rfl rfl rfl (fun hb => by (have hq := hb; try simp only [zbA] at hq); exact rLdF rfl (evg rfl hb) rfl) ?_
    refine stg rfl rfl rfl rfl rfl (fun hb => by (have hq := hb; try simp only [zbA] at hq); exact rGtr rfl (evg rfl hb) rfl) ?_
    refine st rfl rfl rfl rfl (rOrB rfl rfl rfl rfl) ?_
    refine tr_cond_bool rfl (fun h4 => ?_) (fun h4 => ?_)
    · try simp only [zbA] at h4
      omega --done
    · try simp only [zbA] at h4
      refine tr_skip ?_
      refine tr_seq ?_
      refine tr_region fun _ _ _ => ?_
      refine st rfl rfl rfl rfl (rFld rfl rfl) ?_
      refine st rfl rfl rfl rfl (rLdSF rfl rfl) ?_
      refine st rfl rfl rfl rfl (rFld rfl rfl) ?_
      refine st rfl rfl rfl rfl (rLdF rfl rfl rfl) ?_
      refine st rfl rfl rfl rfl (rFld rfl rfl) ?_
      refine st rfl rfl rfl rfl (rLdF rfl rfl rfl) ?_
      refine st rfl rfl rfl rfl (rBuild rfl rfl) ?_
      refine ef rfl rfl (eCallV rfl rfl rfl (ref_SCheckG _ _ _ _ _ hl9 w Aa _ ca rs hn h9 h8 hE hf) ⟨rfl, rfl, trivial⟩ ?_) 
      refine pu rfl rfl rfl rfl rfl ?_
      exact tr_ret ⟨trivial, _, _, rfl, ⟨rfl, rfl⟩, CSub.nil _, trivial⟩
theorem ref_CCheck (p m : Int) (A : Option Addr) (c : Nat) (mod : List Int) (hl9 : mod.length ≤ 17592186044415) (w : Int) (Aa : Option Addr) (n ca : Nat) (rs : List RowM) (hn : n = rs.length) (h9 : rs.length ≤ 17592186044415) (h8 : ∀ r ∈ rs, r.xs.length ≤ 17592186044415) : Pure Tryz.prog 22 #[.agg #[.int .i64 p, .int .i64 m, .slice A mod.length c, .int .i64 w, .slice Aa n ca]] [ro A (ints mod), ro Aa (hdrs rs), rowsR rs] (isV (.int .i64 (codC p m mod w rs))) := by
  by_cases hF : FldR p m mod
  · haveI : IsF p m mod := ⟨hF⟩
    by_cases hb : w < 1 ∨ w > 64
    · rw [codC_ln hb]; exact ref_CCheckL p m A c mod hl9 w Aa n ca rs hn h9 h8 hb
    · by_cases hE : rowsC (pw p m) w (xss rs) = 0
      · by_cases hf : formP p m mod w.toNat rs
        · rw [codC_ok hb hE hf]; exact ref_CCheckG p m A c mod hl9 w Aa n ca rs hn h9 h8 hb hE hf
        · rw [codC_fm hb hE hf]; exact ref_CCheckF p m A c mod hl9 w Aa n ca rs hn h9 h8 hb hE hf
      · rw [codC_rw hb hE]; exact ref_CCheckE p m A c mod hl9 w Aa n ca rs hn h9 h8 hb hE
  · rw [codC_no w rs hF]; exact ref_CCheckNo p m A c mod hl9 hF w Aa n ca rs hn h9 h8
end Go.Proofs.YtgnmcoegdogfgaaGreat

set_option linter.unusedSimpArgs false
set_option linter.unusedVariables false
set_option maxRecDepth 100000
namespace Go.Proofs.YtgnmcoegdogfgaaGreat
open Go.RowKit
end Go.Proofs.YtgnmcoegdogfgaaGreat

set_option linter.unusedSimpArgs false
set_option linter.unusedVariables false
set_option maxRecDepth 100000
namespace Go.Proofs.YtgnmcoegdogfgaaGreat
open Go.RowKit
section
variable {p m : Int} {mod : List Int} [hF : IsF p m mod]
end
section
variable {p m : Int} {mod : List Int} [hF : IsF p m mod]
end
end Go.Proofs.YtgnmcoegdogfgaaGreat

set_option linter.unusedSimpArgs false
set_option linter.unusedVariables false
set_option maxRecDepth 100000
namespace Go.Proofs.YtgnmcoegdogfgaaGreat
open Go.RowKit
end Go.Proofs.YtgnmcoegdogfgaaGreat

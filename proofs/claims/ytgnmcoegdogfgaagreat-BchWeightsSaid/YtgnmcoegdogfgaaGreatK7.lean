/-
  BCHWEIGHTS, PART 7 OF 10. One sentence: the texts behind the law BchWeights, put together.
  Conditions: each theorem's own, written out in it.
-/
import Derived.Test.YtgnmcoegdogfgaaGreatK6
set_option linter.unusedSimpArgs false
set_option linter.unusedVariables false
set_option linter.unusedSectionVars false
set_option linter.unusedSimpArgs false
set_option linter.unusedVariables false
set_option maxRecDepth 100000
namespace Go.Proofs.YtgnmcoegdogfgaaGreat
open Go.RowKit
def wtT (o : List Int) (k : Nat) : Nat := ((List.range k).filter fun p => decide (o.getD p 0 ≠ 0)).length
theorem wtT_yes {o : List Int} {k : Nat} (h : o.getD k 0 ≠ 0) : wtT o (k + 1) = wtT o k + 1 := by
  unfold wtT
  rw [List.range_succ, List.filter_append, List.length_append, List.filter_cons, if_pos (by simpa using h)]; rfl
theorem wtT_no {o : List Int} {k : Nat} (h : o.getD k 0 = 0) : wtT o (k + 1) = wtT o k := by
  unfold wtT
  rw [List.range_succ, List.filter_append, List.length_append, List.filter_cons, if_neg (by simpa using h)]; rfl
theorem wtT_le (o : List Int) (k : Nat) : wtT o k ≤ k := by
  unfold wtT
  refine Nat.le_trans (List.length_filter_le _ _) ?_
  rw [List.length_range]; exact Nat.le_refl _
theorem ref_Weight_ent : Enters Tryz.prog 14 := enters_of Tryz.func14 (by kernel_rfl) (by kernel_rfl)
theorem ref_Weight (X : Option Addr) (nx cx : Nat) (o : List Int) (hnx : nx = o.length) (h9 : o.length ≤ 1000000) :
    Pure Tryz.prog 14 #[.slice X nx cx] [ro X (ints o)] (isV (.int .i64 (wtL o : Int))) := by
  refine pure_of (args := [.slice X nx cx]) 19 Tryz.func14 rfl rfl rfl ref_Weight_ent ⟨id, trivial⟩ (fun w0 => ?_)
  refine tr_seq ?_
  refine tr_region fun _ _ _ => ?_
  refine pu rfl rfl rfl rfl rfl ?_
  refine tr_seq ?_
  refine tr_region fun _ _ _ => ?_
  refine pu rfl rfl rfl rfl rfl ?_
  refine tr_seq ?_
  refine tr_seq ?_
  refine tr_region fun _ _ _ => ?_
  refine pu rfl rfl rfl rfl rfl ?_
  refine tr_block ?_
  refine tr_loop2 (fun (k : Int) (z : Int) => [(3, .int .i64 z), (4, .int .i64 k), (0, .slice X nx cx), (2, .int .i64 0)]) (fun (k : Int) (z : Int) => [ro X (ints o)]) (fun (k : Int) (z : Int) => (0 ≤ k ∧ k ≤ nx) ∧ z = (wtT o k.toNat : Int)) (fun (k : Int) (z : Int) => (nx - k).toNat) (0) (0) ⟨rfl, rfl, rfl, rfl, trivial⟩ (by first | exact cs _ _ | exact CSub.refl _) (⟨⟨by omega, by omega⟩, rfl⟩) (fun k z hI => ?_)
  obtain ⟨⟨hk0, hk1⟩, hz⟩ := hI
  have hwk := wtT_le o k.toNat
  have hkk : (k + 1).toNat = k.toNat + 1 := by omega
  refine tr_seq ?_
  refine tr_seq ?_
  refine tr_region fun _ _ _ => ?_
  iterate 2 refine pu rfl rfl rfl rfl rfl ?_
  refine st rfl rfl rfl rfl (rLen rfl rfl) ?_
  refine pu rfl rfl rfl rfl rfl ?_
  refine tr_cond_bool rfl (fun h3 => ?_) (fun h3 => ?_)
  · try simp only [zbA] at h3
    refine tr_skip ?_
    refine tr_seq ?_
    refine tr_block ?_
    refine tr_seq ?_
    refine tr_region fun _ _ _ => ?_
    iterate 2 refine pu rfl rfl rfl rfl rfl ?_
    refine st rfl rfl rfl rfl (rIdxI rfl rfl rfl (by omega) (by omega) (by omega)) ?_
    refine st rfl rfl rfl rfl (rLdI rfl rfl (by omega)) ?_
    refine pu rfl rfl rfl rfl rfl ?_
    refine tr_cond_bool rfl (fun h5 => ?_) (fun h5 => ?_)
    · try simp only [zbA] at h5
      refine tr_region fun _ _ _ => ?_
      refine pu rfl rfl rfl rfl rfl ?_
      refine st rfl rfl rfl rfl (rAdd rfl rfl rfl (by omega) (by omega)) ?_
      refine pu rfl rfl rfl rfl rfl ?_
      refine tr_region fun _ _ _ => ?_
      refine pu rfl rfl rfl rfl rfl ?_
      refine st rfl rfl rfl rfl (rAdd rfl rfl rfl (by omega) (by omega)) ?_
      refine pu rfl rfl rfl rfl rfl ?_
      refine ⟨k + 1, z + 1, ⟨rfl, rfl, rfl, rfl, trivial⟩, by first | exact cs _ _ | exact CSub.refl _, ?_⟩
      exact ⟨⟨⟨by omega, by omega⟩, by rw [hkk, wtT_yes (by omega), hz]; rfl⟩, by omega⟩
    · try simp only [zbA] at h5
      refine tr_skip ?_
      refine tr_region fun _ _ _ => ?_
      refine pu rfl rfl rfl rfl rfl ?_
      refine st rfl rfl rfl rfl (rAdd rfl rfl rfl (by omega) (by omega)) ?_
      refine pu rfl rfl rfl rfl rfl ?_
      refine ⟨k + 1, z, ⟨rfl, rfl, rfl, rfl, trivial⟩, by first | exact cs _ _ | exact CSub.refl _, ?_⟩
      exact ⟨⟨⟨by omega, by omega⟩, by rw [hkk, wtT_no (by omega), hz]⟩, by omega⟩
  · try simp only [zbA] at h3
    refine tr_exit ?_
    refine tr_seq ?_
    refine tr_region fun _ _ _ => ?_
    iterate 2 refine pu rfl rfl rfl rfl rfl ?_
    have hkn : k.toNat = o.length := by omega
    exact tr_ret ⟨trivial, _, _, rfl, ⟨by rw [hz, hkn]; rfl, rfl⟩, CSub.nil _, trivial⟩
theorem ref_Of_ent : Enters Tryz.prog 15 := enters_of Tryz.func15 (by kernel_rfl) (by kernel_rfl)
theorem ref_Of (p m : Int) (A : Option Addr) (c : Nat) (mod : List Int) [hF : IsF p m mod] (w : Int) (Aa : Option Addr) (n ca : Nat) (rs : List RowM) (hn : n = rs.length) (h9 : rs.length ≤ 256) (hc : CodeOk p m mod w rs) (X : Option Addr) (nx cx : Nat) (l : List Int) (hnx : nx = l.length) (hl : l.length ≤ 17592186044415) :
    Pure Tryz.prog 15 #[.agg #[.int .i64 p, .int .i64 m, .slice A mod.length c, .int .i64 w, .slice Aa n ca], .slice X nx cx] [ro A (ints mod), ro Aa (hdrs rs), rowsR rs, ro X (ints l)] (one (fun v ch => ∃ B cb o, v = .slice B o.length cb ∧ ch = ow B 3 cb (ints o) ∧ (o.length : Int) = w ∧ AllIn (pw p m) o ∧ Vc.SpL (vsR rs : List (Vc (El p m mod))) (rw' o))) := by
  have hn1 := hc.n1
  have hn64 := hc.n64
  have hgd := hc.good
  have hq2 := hF.q2
  have hlen := hc.len
  refine pure_of (args := [.agg #[.int .i64 p, .int .i64 m, .slice A mod.length c, .int .i64 w, .slice Aa n ca], .slice X nx cx]) 41 Tryz.func15 rfl rfl rfl ref_Of_ent ⟨id, id, id, id, trivial⟩ (fun w0 => ?_)
  refine tr_seq ?_
  refine tr_region fun _ _ _ => ?_
  refine ef rfl rfl (eBox rfl rfl rfl rfl rfl (fun p0 => ?_)) 
  refine pu rfl rfl rfl rfl rfl ?_
  refine tr_seq ?_
  refine tr_region fun _ _ _ => ?_
  refine st rfl rfl rfl rfl (rFld rfl rfl) ?_
  refine st rfl rfl rfl rfl (rLdF rfl rfl rfl) ?_
  refine st rfl rfl rfl rfl (rLen rfl rfl) ?_
  refine ef rfl rfl (eMakeI rfl rfl rfl rfl rfl (by omega) (by omega) (by omega) (fun A1 => ?_)) 
  refine pu rfl rfl rfl rfl rfl ?_
  refine tr_seq ?_
  refine tr_seq ?_
  refine tr_region fun _ _ _ => ?_
  refine pu rfl rfl rfl rfl rfl ?_
  refine tr_block ?_
  refine tr_loop2 (fun (k : Int) (x : List Int) => [(5, .slice A1 n n), (6, .int .i64 k), (1, .slice X nx cx), (2, .pointer (some p0)), (4, .slice none 0 0)]) (fun (k : Int) (x : List Int) => [ow A1 3 n (ints x), blk p0 27 [.int .i64 p, .int .i64 m, .slice A mod.length c, .int .i64 w, .slice Aa n ca], ro A (ints mod), ro Aa (hdrs rs), rowsR rs, ro X (ints l)]) (fun (k : Int) (x : List Int) => (0 ≤ k ∧ k ≤ n) ∧ x.length = n) (fun (k : Int) (x : List Int) => (n - k).toNat) (0) (List.replicate n 0) ⟨rfl, rfl, rfl, rfl, rfl, trivial⟩ (by first | exact cs _ _ | exact CSub.refl _) (⟨⟨by omega, by omega⟩, by simp⟩) (fun k x hI => ?_)
  obtain ⟨⟨hk0, hk1⟩, hxl0⟩ := hI
  refine tr_seq ?_
  refine tr_seq ?_
  refine tr_region fun _ _ _ => ?_
  iterate 2 refine pu rfl rfl rfl rfl rfl ?_
  refine st rfl rfl rfl rfl (rLen rfl rfl) ?_
  iterate 2 refine pu rfl rfl rfl rfl rfl ?_
  refine stg rfl rfl rfl rfl rfl (fun hb => by (have hq := hb; try simp only [zbA] at hq); exact rMove rfl rfl) ?_
  refine stg rfl rfl rfl rfl rfl (fun hb => by (have hq := hb; try simp only [zbA] at hq); exact rMove rfl rfl) ?_
  refine stg rfl rfl rfl rfl rfl (fun hb => by (have hq := hb; try simp only [zbA] at hq); exact rLen rfl (evg rfl hb)) ?_
  refine stg rfl rfl rfl rfl rfl (fun hb => by (have hq := hb; try simp only [zbA] at hq); exact rLss rfl (evg rfl hb) (evg rfl hb)) ?_
  refine st rfl rfl rfl rfl (rAndB rfl rfl rfl rfl) ?_
  refine tr_cond_bool rfl (fun h3 => ?_) (fun h3 => ?_)
  · try simp only [zbA] at h3
    refine tr_skip ?_
    refine tr_seq ?_
    refine tr_block ?_
    refine tr_draw [0, 1, 2, 3, 4, 5, 6, 7, 8, 9] [10] mixed (by kernel_rfl) fun _ _ _ => ?_
    iterate 2 refine pu rfl rfl rfl rfl rfl ?_
    refine st rfl rfl rfl rfl (rFld rfl rfl) ?_
    refine st rfl rfl rfl rfl (rLdSF rfl rfl) ?_
    iterate 2 refine pu rfl rfl rfl rfl rfl ?_
    refine st rfl rfl rfl rfl (rIdxI rfl rfl rfl (by omega) (by omega) (by omega)) ?_
    refine st rfl rfl rfl rfl (rLdI rfl rfl (by omega)) ?_
    refine ef rfl rfl (eCallV rfl rfl rfl (ref_In _ _ _ _ _ _) ⟨rfl, rfl, trivial⟩ ?_) 
    refine st rfl rfl rfl rfl (rIdxI rfl rfl rfl (by omega) (by omega) (by omega)) ?_
    refine ef rfl rfl (eStI rfl rfl rfl rfl (by omega) ?_) 
    refine tr_region fun _ _ _ => ?_
    refine pu rfl rfl rfl rfl rfl ?_
    refine st rfl rfl rfl rfl (rAdd rfl rfl rfl (by omega) (by omega)) ?_
    refine pu rfl rfl rfl rfl rfl ?_
    refine ⟨k + 1, x.set k.toNat (inI (ordI p m) (l.getD k.toNat 0)), ⟨rfl, rfl, rfl, rfl, rfl, trivial⟩, by first | exact cs _ _ | exact CSub.refl _, ?_⟩
    exact ⟨⟨⟨by omega, by omega⟩, by simpa using hxl0⟩, by omega⟩
  · try simp only [zbA] at h3
    refine tr_exit ?_
    refine tr_seq ?_
    have hxn : n = x.length := by omega
    have hxl : x.length = rs.length := by omega
    refine tr_region fun _ _ _ => ?_
    refine st rfl rfl rfl rfl (rFld rfl rfl) ?_
    refine st rfl rfl rfl rfl (rLdSF rfl rfl) ?_
    refine pu rfl rfl rfl rfl rfl ?_
    refine st rfl rfl rfl rfl (rFld rfl rfl) ?_
    refine st rfl rfl rfl rfl (rLdF rfl rfl rfl) ?_
    refine st rfl rfl rfl rfl (rFld rfl rfl) ?_
    refine st rfl rfl rfl rfl (rLdF rfl rfl rfl) ?_
    refine ef rfl rfl (eCall1 rfl rfl rfl (ref_Combine _ _ _ _ _ A1 _ _ x hxn w (by omega) (by omega) Aa _ ca rs hn hxl (by omega) hgd) ⟨rfl, rfl, rfl, rfl, trivial⟩ ?_) 
    rintro _ _ ⟨Bo, cb, o, rfl, rfl, hol, hoi, hoe⟩
    refine pu rfl rfl rfl rfl rfl ?_
    exact tr_ret ⟨trivial, _, _, rfl, ⟨_, rfl, Bo, cb, o, rfl, rfl, by omega, hoi, hoe ▸ Vc.cmb_sp _ _⟩, cs _ _, trivial, trivial⟩
end Go.Proofs.YtgnmcoegdogfgaaGreat

set_option linter.unusedSimpArgs false
set_option linter.unusedVariables false
namespace Go.Proofs.YtgnmcoegdogfgaaGreat
open Go.RowKit
section
variable {p m m2 : Int} {mod mod2 : List Int} [hE : IsF p m2 mod2]
end
section
variable {p m m2 : Int} {mod mod2 : List Int} [hF : IsF p m mod] [hE : IsF p m2 mod2]
theorem zer_word (hd : m2 % m = 0) {n : Nat} {rs : List RowM} (hgd : Gd (pw p m) n rs) {a w i : Int} (hi : i ∈ zerL p m2 mod2 (imL p m2 mod2 m (embR p m2 mod2 m mod)) rs a w) {o : List Int} (hsp : Vc.SpL (vsR rs : List (Vc (El p m mod))) (rw' o)) : Po.val (mapP (phi p m mod m2 mod2) (phi_hm hd) (pol o)) (Rg.pow (el a) i.toNat) = 0 := by
  have hh := phi_hm (p := p) (m := m) (mod := mod) (m2 := m2) (mod2 := mod2) hd
  have hz := (List.mem_filter.1 hi).2
  unfold zerB at hz
  rw [List.all_eq_true] at hz
  have hrow : ∀ r ∈ rs, Po.val (mapP (phi p m mod m2 mod2) hh (pol r.xs)) (Rg.pow (el a) i.toNat) = 0 := fun r hr => by
    have := hz r hr
    rwa [zset_iff, el_of, map_phi hd (hgd r hr).2] at this
  have : ∃ f : Po (El p m mod), (∀ j, (rw' o : Vc (El p m mod)) j = Po.cf f j) ∧ Po.val (mapP (phi p m mod m2 mod2) hh f) (Rg.pow (el a) i.toNat) = 0 := by
    refine Vc.Sp.lift hsp (Q := fun u => ∃ f : Po (El p m mod), (∀ j, u j = Po.cf f j) ∧ Po.val (mapP (phi p m mod m2 mod2) hh f) (Rg.pow (el a) i.toNat) = 0) ⟨0, fun _ => rfl, by rw [mapP_zero, Po.val_zero]⟩ ?_
    rintro u c r ⟨f, hf, hv⟩ hr
    obtain ⟨r0, hr0, rfl⟩ := List.mem_map.1 hr
    refine ⟨f + Po.C c * pol r0.xs, fun j => by rw [Vc.add_at, Vc.sc_at, Po.cf_add, Po.cf_C_mul, hf]; rfl, ?_⟩
    rw [mapP_add, mapP_mul, Po.val_add, Po.val_mul, hv, hrow r0 hr0, Rg.mul_zero, Rg.add_zero]
  obtain ⟨f, hf, hv⟩ := this
  have e : f = pol o := Po.ext fun j => (hf j).symm
  rw [← e]; exact hv
theorem run_wt (hd : m2 % m = 0) {n : Int} (hn1 : 1 ≤ n) (hr : rootI p m2 mod2 n ≠ 0) {rs : List RowM} (hgd : Gd (pw p m) n.toNat rs) {s t c x k : Int}
    (hok : RunOk n (zerL p m2 mod2 (imL p m2 mod2 m (embR p m2 mod2 m mod)) rs (rootI p m2 mod2 n) n) s t c x k) (hb : ¬ RunBad n t c x k) (hc : 1 ≤ c) (hk : 0 ≤ k) {o : List Int} (ho : o.length = n.toNat) (hin : AllIn (pw p m) o) (hsp : Vc.SpL (vsR rs : List (Vc (El p m mod))) (rw' o)) : wtL o = 0 ∨ c + 1 + k ≤ wtL o := by
  have ha := root_ord (p := p) (m2 := m2) (mod2 := mod2) hn1 hr
  unfold RunBad at hb
  refine ht_word (mod := mod) hd ha s t c x k hc hk (by omega) (by omega) ho hin fun i hi0 hi1 j hj0 hj1 => ?_
  obtain ⟨z, hz, he⟩ := hok i hi0 hi1 j hj0 hj1
  rw [← he]
  have hzb := mem_upI.1 (List.mem_filter.1 hz).1
  rw [Int.emod_eq_of_lt (by omega) (by omega)]
  exact zer_word hd hgd hz hsp
end
section
variable {p m : Int} {mod : List Int} [hF : IsF p m mod]
end
end Go.Proofs.YtgnmcoegdogfgaaGreat

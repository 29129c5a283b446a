/-
  CYCLICQUASI, PART 7 OF 8. One sentence: the texts behind the law CyclicQuasi, put together.
  Conditions: each theorem's own, written out in it.
-/
import Derived.Test.YtdkahdehodopoaaK6
set_option linter.unusedSimpArgs false
set_option linter.unusedVariables false
set_option linter.unusedSectionVars false
set_option maxRecDepth 100000
namespace Go.Proofs.Ytdkahdehodopoaa
open Go.RowKit
theorem law_CyclicQuasi_big_ent : Enters Try.prog 3 := enters_of Try.func3 (by kernel_rfl) (by kernel_rfl)
theorem law_CyclicQuasi_big (p m : Int) (A : Option Addr) (c : Nat) (mod : List Int) (hl9 : mod.length ≤ 17592186044415) (k : Int) (U : Option Addr) (nu cu : Nat) (us : List CubM) (hnu : nu = us.length) (hu9 : 20 < us.length) (hu : us.length ≤ 1048576) :
  Pure Try.prog 3 #[.agg #[.int .i64 p, .int .i64 m, .slice A mod.length c], .int .i64 k, .slice U nu cu] [ro A (ints mod), ro U (cubH us), cubR us] (isV (.bool true)) := by
 refine pure_of (args := [.agg #[.int .i64 p, .int .i64 m, .slice A mod.length c], .int .i64 k, .slice U nu cu]) 50 Try.func3 rfl rfl rfl law_CyclicQuasi_big_ent ⟨id, id, id, trivial⟩ (fun w0 => ?_)
 refine tS ?_
 refine tR fun _ _ _ => ?_
 refine eV (eBox rfl rfl rfl rfl rfl (fun p0 => ?_))
 refine pV ?_
 refine tS ?_
 refine tS ?_
 refine tR fun _ _ _ => ?_
 refine pV ?_
 refine sV (rLen rfl rfl) ?_
 refine pV ?_
 refine tC rfl (fun h1 => ?_) (fun h1 => ?_)
 ·try simp only [zbA] at h1
  refine tS ?_
  refine tR fun _ _ _ => ?_
  refine pV ?_
  exact tr_ret ⟨trivial, _, _, rfl, ⟨rfl, rfl⟩, CSub.nil _, trivial⟩
 ·try simp only [zbA] at h1
  omega --done
theorem law_CyclicQuasi_G_ent : Enters Try.prog 3 := enters_of Try.func3 (by kernel_rfl) (by kernel_rfl)
theorem law_CyclicQuasi_G (p m : Int) (A : Option Addr) (c : Nat) (mod : List Int) (hl9 : mod.length ≤ 17592186044415) (k : Int) (U : Option Addr) (nu cu : Nat) (us : List CubM) (hnu : nu = us.length) (hu9 : us.length ≤ 20) (hb : ∀ c ∈ us, c.rs.length ≤ 1048576 ∧ (flat c.rs).length ≤ 1048576) :
  Pure Try.prog 3 #[.agg #[.int .i64 p, .int .i64 m, .slice A mod.length c], .int .i64 k, .slice U nu cu] [ro A (ints mod), ro U (cubH us), cubR us] (isV (.bool true)) := by
 refine pure_of (args := [.agg #[.int .i64 p, .int .i64 m, .slice A mod.length c], .int .i64 k, .slice U nu cu]) 50 Try.func3 rfl rfl rfl law_CyclicQuasi_G_ent ⟨id, id, id, trivial⟩ (fun w0 => ?_)
 refine tS ?_
 refine tR fun _ _ _ => ?_
 refine eV (eBox rfl rfl rfl rfl rfl (fun p0 => ?_))
 refine pV ?_
 refine tS ?_
 refine tS ?_
 refine tR fun _ _ _ => ?_
 refine pV ?_
 refine sV (rLen rfl rfl) ?_
 refine pV ?_
 refine tC rfl (fun h1 => ?_) (fun h1 => ?_)
 ·try simp only [zbA] at h1
  omega --done
 ·try simp only [zbA] at h1
  refine tK ?_
  refine tS ?_
  refine tR fun _ _ _ => ?_
  refine sV (rLdS rfl rfl rfl) ?_
  iterate 2 refine pV ?_
  refine eV (eCall3 rfl rfl rfl (cyc_Quasi p m A c mod hl9 k U nu cu us hnu hu9 hb) ⟨rfl, rfl, rfl, trivial⟩ ?_)
  rintro _ _ _ _ ⟨pp, mm, Mo, mc, md, N5, B3, r3, rfl, rfl, rfl, rfl, hno, hok⟩
  iterate 3 refine pV ?_
  refine eV (eAlloc rfl rfl rfl (fun p3a => ?_))
  refine eV (eStS rfl rfl rfl rfl rfl rfl ?_)
  refine pV ?_
  refine tS ?_
  refine tR fun _ _ _ => ?_
  refine sV (rLdS rfl rfl rfl) ?_
  iterate 2 refine pV ?_
  refine eV (eCallV rfl rfl rfl (ref_QuasiArgs p m A c mod hl9 k U nu cu us hnu hu9 hb) ⟨rfl, rfl, rfl, trivial⟩ ?_)
  refine pV ?_
  refine tS ?_
  refine tS ?_
  refine tR fun _ _ _ => ?_
  iterate 2 refine pV ?_
  refine tC rfl (fun h5 => ?_) (fun h5 => ?_)
  ·try simp only [zbA] at h5
   obtain ⟨rfl, rfl⟩ := hno h5
   refine tS ?_
   refine tR fun _ _ _ => ?_
   iterate 4 refine pV ?_
   refine stT rfl rfl rfl (by simp) rfl rfl (rFld rfl rfl) ?_
   refine stT rfl rfl rfl (by simp) rfl rfl (rLdF rfl rfl rfl) ?_
   refine stT rfl rfl rfl (by simp) rfl rfl (rEql rfl rfl rfl) ?_
   refine sV (rPick1 rfl rfl (by simp) rfl) ?_
   refine pV ?_
   refine stT rfl rfl rfl (by simp) rfl rfl (rFld rfl rfl) ?_
   refine stT rfl rfl rfl (by simp) rfl rfl (rLdF rfl rfl rfl) ?_
   refine stT rfl rfl rfl (by simp) rfl rfl (rLen rfl rfl) ?_
   refine stT rfl rfl rfl (by simp) rfl rfl (rEql rfl rfl rfl) ?_
   refine sV (rPick1 rfl rfl (by simp) rfl) ?_
   refine pV ?_
   exact tr_ret ⟨trivial, _, _, rfl, ⟨by simp, rfl⟩, CSub.nil _, trivial⟩
  ·try simp only [zbA] at h5
   have hq0 : quE p m mod k us = 0 := by omega
   have hq := quE_zero hq0
   obtain ⟨rfl, rfl, rfl, hN, hF, hC⟩ := hok hq0
   have hle := hC.le
   have hk1 := hq.k1
   have h64 := hq.n64
   have h83 := hC.good.h8 (N := 1000000000000) (by omega)
   refine tK ?_
   refine tS ?_
   refine tr_draw [0, 1, 2, 3, 4, 5, 6, 7, 8, 9, 10] [] mixed (by kernel_rfl) fun _ _ _ => ?_
   iterate 3 refine pV ?_
   refine stT rfl rfl rfl (by simp; omega) rfl rfl (rLdS rfl rfl rfl) ?_
   refine stT rfl rfl rfl (by simp; omega) rfl rfl (rLdS rfl rfl rfl) ?_
   refine stT rfl rfl rfl (by simp; omega) rfl rfl (rMove rfl rfl) ?_
   refine stT rfl rfl rfl (by simp; omega) rfl rfl (rMove rfl rfl) ?_
   refine efT rfl rfl rfl (by simp; omega) (eCall3 rfl rfl rfl (ref_Quasi pp mm A c md hl9 k U nu cu us hnu hu9 hb hq N5 hN) ⟨rfl, rfl, rfl, trivial⟩ ?_)
   rintro _ _ _ _ ⟨Bm, cm, B7, cg, r7, rfl, rfl, rfl, rfl, hC7⟩
   refine efT rfl rfl rfl (by simp; omega) (eCallV rfl rfl rfl (ref_CSame _ _ _ _ _ hl9 _ _ _ _ r3 rfl (by omega) h83 _ _ _ _ _ _ _ _ _ r7 rfl) ⟨rfl, rfl, trivial⟩ ?_)
   refine sV (rPick1 rfl rfl (by simp; omega) rfl) ?_
   refine pV ?_
   exact tr_ret ⟨trivial, _, _, rfl, ⟨by simp [hC.uniq hC7], rfl⟩, CSub.nil _, trivial⟩
theorem law_CyclicQuasi (p m : Int) (A : Option Addr) (c : Nat) (mod : List Int) (hl9 : mod.length ≤ 17592186044415) (k : Int) (U : Option Addr) (nu cu : Nat) (us : List CubM) (hnu : nu = us.length) (hu : us.length ≤ 1048576)  (hb : ∀ c ∈ us, c.rs.length ≤ 1048576 ∧ (flat c.rs).length ≤ 1048576) : Pure Try.prog 3 #[.agg #[.int .i64 p, .int .i64 m, .slice A mod.length c], .int .i64 k, .slice U nu cu] [ro A (ints mod), ro U (cubH us), cubR us] (isV (.bool true)) := by
 by_cases hu9 : us.length ≤ 20
 ·exact law_CyclicQuasi_G p m A c mod hl9 k U nu cu us hnu hu9 hb
 ·exact law_CyclicQuasi_big p m A c mod hl9 k U nu cu us hnu (by omega) hu
end Go.Proofs.Ytdkahdehodopoaa

/-
  SLICES OF SLICES. One sentence: a slice of rows of ints as one chunk, how a row is read, and how one is put to the end.
  Conditions: none. Plain theorems on the model's own words; no program is named here.
-/
import Derived.Test.YtjmojhflnjbgaaaSymK
set_option linter.unusedSimpArgs false
set_option linter.unusedVariables false
namespace Go.Proofs.Ytjmojhflnjbgaaa
open Go.RowKit

structure RowM where
  A : Option Addr
  cap : Nat
  xs : List Int
def RowM.hdr (r : RowM) : Value := .slice r.A r.xs.length r.cap
def RowM.ch (e : TypeId) (r : RowM) : Chunk := ow r.A e r.cap (ints r.xs)
def rowD : RowM := ⟨none, 0, []⟩
def hdrs (rs : List RowM) : List Value := rs.map RowM.hdr
@[simp] theorem hdrs_length (rs : List RowM) : (hdrs rs).length = rs.length := by simp [hdrs]
theorem hdrs_append (rs qs : List RowM) : hdrs (rs ++ qs) = hdrs rs ++ hdrs qs := by simp [hdrs]
/-- The rows alone, each one's own. -/
def rowsCh (e : TypeId) (rs : List RowM) : Chunk where
  foot b := ∃ r ∈ rs, (r.ch e).foot b
  excl := True
  sat w := (∀ r ∈ rs, (r.ch e).sat w) ∧ rs.Pairwise (fun (r s : RowM) => ∀ b : Nat, (r.ch e).foot b → ¬ (s.ch e).foot b)
  loc w w' h hs := ⟨fun r hr => (r.ch e).loc w w' (fun b hb => h b ⟨r, hr, hb⟩) (hs.1 r hr), hs.2⟩
  cel w b hs hb := by
    obtain ⟨r, hr, hb⟩ := hb
    exact (r.ch e).cel w b (hs.1 r hr) hb
/-- To read alone. -/
def rowsR (rs : List RowM) : Chunk where
  foot b := ∃ r ∈ rs, (ro r.A (ints r.xs)).foot b
  excl := False
  sat w := ∀ r ∈ rs, (ro r.A (ints r.xs)).sat w
  loc w w' h hs := fun r hr => (ro r.A (ints r.xs)).loc w w' (fun b hb => h b ⟨r, hr, hb⟩) (hs r hr)
  cel w b hs hb := by
    obtain ⟨r, hr, hb⟩ := hb
    exact (ro r.A (ints r.xs)).cel w b (hs r hr) hb
/-- An index in its bounds. -/
class InB (i n : Nat) : Prop where
  lt : i < n
theorem getD_mem {α : Type} {l : List α} {i : Nat} (h : i < l.length) (d : α) : l.getD i d ∈ l := by
  rw [List.getD_eq_getElem?_getD, List.getElem?_eq_getElem h]
  exact List.getElem_mem h
/-- One of the rows. -/
class RowIn (r : RowM) (rs : List RowM) : Prop where
  mem : r ∈ rs
instance RowIn.get (rs : List RowM) (i : Nat) [h : InB i rs.length] : RowIn (rs.getD i rowD) rs := ⟨getD_mem h.lt _⟩
instance Rd.rowC (F : List Chunk) (e : TypeId) (r : RowM) (rs : List RowM) [h : RowIn r rs] : Rd (rowsCh e rs :: F) r.A (ints r.xs) := ⟨fun _ _ _ hm => ow_reads ((hm.sat _ (List.mem_cons_self ..)).1 _ h.mem), fun b hb => ⟨_, List.mem_cons_self .., _, h.mem, hb.2⟩⟩
instance Rd.rowR (F : List Chunk) (r : RowM) (rs : List RowM) [h : RowIn r rs] : Rd (rowsR rs :: F) r.A (ints r.xs) := ⟨fun _ _ _ hm => hm.sat _ (List.mem_cons_self ..) _ h.mem, fun b hb => ⟨_, List.mem_cons_self .., _, h.mem, hb⟩⟩
class HasRows (F : List Chunk) (rs : List RowM) : Prop where
  has : ∀ (M : Nat → Prop) (w0 w : World), Mem M w0 w F → (rowsR rs).sat w
  ft : ∀ b, (rowsR rs).foot b → ∃ c ∈ F, c.foot b
instance HasRows.tail (c : Chunk) (F : List Chunk) (rs : List RowM) [h : HasRows F rs] : HasRows (c :: F) rs := ⟨fun M w0 w hm => h.has M w0 w hm.tail, fun b hb => by
  obtain ⟨d, hd, hf⟩ := h.ft b hb
  exact ⟨d, List.mem_cons_of_mem _ hd, hf⟩⟩
instance HasRows.ofR (F : List Chunk) (rs : List RowM) : HasRows (rowsR rs :: F) rs := ⟨fun _ _ _ hm => hm.sat _ (List.mem_cons_self ..), fun b hb => ⟨_, List.mem_cons_self .., hb⟩⟩
instance HasRows.ofC (F : List Chunk) (e : TypeId) (rs : List RowM) : HasRows (rowsCh e rs :: F) rs := ⟨fun _ _ _ hm r hr => ow_reads ((hm.sat _ (List.mem_cons_self ..)).1 r hr), fun b hb => ⟨_, List.mem_cons_self .., by
  obtain ⟨r, hr, hf⟩ := hb
  exact ⟨r, hr, hf.2⟩⟩⟩
instance Ent.rows (F : List Chunk) (rs : List RowM) (G : List Chunk) [h : HasRows F rs] [k : Ent F G] : Ent F (rowsR rs :: G) := ⟨fun M w0 w hm c hc => by
  rcases List.mem_cons.1 hc with rfl | hc
  · exact h.has M w0 w hm
  · exact k.ent M w0 w hm c hc, fun g hg b hb => by
  rcases List.mem_cons.1 hg with rfl | hg
  · exact h.ft b hb
  · exact k.ft g hg b hb⟩
/-- No rows yet. -/
theorem rows_nil (e : TypeId) (F : List Chunk) : CSub F (rowsCh e [] :: F) := fun M w0 w Z hm => by
  refine ⟨hm.upd, fun c hc => ?_, List.pairwise_cons.2 ⟨fun c _ _ b' hb' => ?_, hm.sep⟩, fun c hc hex b' hb' => ?_⟩
  · rcases List.mem_cons.1 hc with rfl | hc
    · exact ⟨fun r hr => by simp at hr, List.Pairwise.nil⟩
    · exact hm.sat c hc
  · obtain ⟨r, hr, _⟩ := hb'
    simp at hr
  · rcases List.mem_cons.1 hc with rfl | hc
    · obtain ⟨r, hr, _⟩ := hb'
      simp at hr
    · exact hm.own c hc hex b' hb'
/-- One row more at the end. -/
theorem rows_snoc {e : TypeId} {rs : List RowM} {r : RowM} (F : List Chunk) : CSub (rowsCh e rs :: r.ch e :: F) (rowsCh e (rs ++ [r]) :: F) := fun M w0 w Z hm => by
  have h1 := hm.sep
  simp only [List.cons_append, List.pairwise_cons] at h1
  obtain ⟨hr, hc, hF⟩ := h1
  have hrr := hr (r.ch e) (by simp) (.inl trivial)
  refine ⟨hm.upd, fun c hcm => ?_, ?_, fun c hcm hex b hb => ?_⟩
  · rcases List.mem_cons.1 hcm with rfl | hcm
    · refine ⟨fun s hs => ?_, ?_⟩
      · rcases List.mem_append.1 hs with hs | hs
        · exact (hm.sat (rowsCh e rs) (by simp)).1 s hs
        · simp only [List.mem_singleton] at hs
          subst hs
          exact hm.sat _ (by simp)
      · rw [List.pairwise_append]
        refine ⟨(hm.sat (rowsCh e rs) (by simp)).2, List.pairwise_singleton _ _, fun s hs s' hs' b hb => ?_⟩
        simp only [List.mem_singleton] at hs'
        subst hs'
        exact hrr b ⟨s, hs, hb⟩
    · exact hm.sat c (by simp only [List.cons_append, List.mem_cons]; exact .inr (.inr hcm))
  · simp only [List.cons_append, List.pairwise_cons]
    refine ⟨fun c hcm hex b hb => ?_, hF⟩
    obtain ⟨s, hs, hb⟩ := hb
    rcases List.mem_append.1 hs with hs | hs
    · exact hr c (List.mem_cons_of_mem _ hcm) (.inl trivial) b ⟨s, hs, hb⟩
    · simp only [List.mem_singleton] at hs
      subst hs
      exact hc c hcm (.inl trivial) b hb
  · rcases List.mem_cons.1 hcm with rfl | hcm
    · obtain ⟨s, hs, hb⟩ := hb
      rcases List.mem_append.1 hs with hs | hs
      · exact hm.own (rowsCh e rs) (by simp) trivial b ⟨s, hs, hb⟩
      · simp only [List.mem_singleton] at hs
        subst hs
        exact hm.own (s.ch e) (by simp) trivial b hb
    · exact hm.own c (by simp only [List.cons_append, List.mem_cons]; exact .inr (.inr hcm)) hex b hb
/-- The rows in whatever order. -/
theorem rows_perm {e : TypeId} {rs qs : List RowM} (h : rs.Perm qs) (F : List Chunk) : CSub (rowsCh e rs :: F) (rowsCh e qs :: F) :=
  CSub.weak (c := rowsCh e rs) (d := rowsCh e qs) ⟨fun w hs => ⟨fun r hr => hs.1 r (h.mem_iff.2 hr), hs.2.perm h (fun h b hb hb' => h b hb' hb)⟩, fun b hb => by
    obtain ⟨r, hr, hf⟩ := hb
    exact ⟨r, h.mem_iff.2 hr, hf⟩, fun h => h⟩ F
/-- The first row, on its own. -/
theorem rows_uncons {e : TypeId} {r : RowM} {rs : List RowM} (F : List Chunk) : CSub (rowsCh e (r :: rs) :: F) (r.ch e :: rowsCh e rs :: F) := fun M w0 w Z hm => by
  have h0 := hm.sat (rowsCh e (r :: rs)) (by simp)
  have hp := List.pairwise_cons.1 h0.2
  have h1 := hm.sep
  simp only [List.cons_append, List.pairwise_cons] at h1 ⊢
  refine ⟨hm.upd, fun c hc => ?_, ?_, fun c hc hex b hb => ?_⟩
  · rcases List.mem_cons.1 hc with rfl | hc
    · exact h0.1 r (by simp)
    · rcases List.mem_cons.1 hc with rfl | hc
      · exact ⟨fun s hs => h0.1 s (by simp [hs]), hp.2⟩
      · exact hm.sat c (by simp only [List.cons_append, List.mem_cons]; exact .inr hc)
  · simp only [List.cons_append, List.pairwise_cons]
    refine ⟨fun c hc hex b hb hb' => ?_, fun c hc hex b hb => ?_, h1.2⟩
    · rcases List.mem_cons.1 hc with rfl | hc
      · obtain ⟨s, hs, hf⟩ := hb'
        exact hp.1 s hs b hb hf
      · exact h1.1 c hc (.inl trivial) b ⟨r, by simp, hb⟩ hb'
    · obtain ⟨s, hs, hf⟩ := hb
      exact h1.1 c hc (.inl trivial) b ⟨s, by simp [hs], hf⟩
  · rcases List.mem_cons.1 hc with rfl | hc
    · exact hm.own (rowsCh e (r :: rs)) (by simp) trivial b ⟨r, by simp, hb⟩
    · rcases List.mem_cons.1 hc with rfl | hc
      · obtain ⟨s, hs, hf⟩ := hb
        exact hm.own (rowsCh e (r :: rs)) (by simp) trivial b ⟨s, by simp [hs], hf⟩
      · exact hm.own c (by simp only [List.cons_append, List.mem_cons]; exact .inr hc) hex b hb
theorem rows_cons {e : TypeId} {r : RowM} {rs : List RowM} (F : List Chunk) : CSub (r.ch e :: rowsCh e rs :: F) (rowsCh e (r :: rs) :: F) :=
  (CSub.perm (List.Perm.swap ..)).trans ((rows_snoc F).trans (rows_perm (List.perm_append_singleton r rs) F))
theorem perm_at {α : Type} (d : α) : ∀ (l : List α) (i : Nat), i < l.length → l.Perm (l.getD i d :: l.eraseIdx i)
  | a :: l, 0, _ => by simp
  | a :: l, i + 1, h => by
    have ih := perm_at d l i (by simpa using h)
    have h1 : (a :: l).getD (i + 1) d = l.getD i d := by simp
    rw [h1, List.eraseIdx_cons_succ]
    exact (ih.cons a).trans (List.Perm.swap ..)
theorem perm_set {α : Type} : ∀ (l : List α) (i : Nat) (x : α), i < l.length → (l.set i x).Perm (x :: l.eraseIdx i)
  | a :: l, 0, x, _ => by simp
  | a :: l, i + 1, x, h => by
    have ih := perm_set l i x (by simpa using h)
    rw [List.set_cons_succ, List.eraseIdx_cons_succ]
    exact (ih.cons a).trans (List.Perm.swap ..)
/-- Row i on its own, beside the others; and another in its place. -/
theorem rows_out {e : TypeId} {rs : List RowM} {i : Nat} (h : i < rs.length) (F : List Chunk) : CSub (rowsCh e rs :: F) ((rs.getD i rowD).ch e :: rowsCh e (rs.eraseIdx i) :: F) :=
  (rows_perm (perm_at rowD rs i h) F).trans (rows_uncons F)
theorem rows_in {e : TypeId} {rs : List RowM} {r : RowM} {i : Nat} (h : i < rs.length) (F : List Chunk) : CSub (r.ch e :: rowsCh e (rs.eraseIdx i) :: F) (rowsCh e (rs.set i r) :: F) :=
  (rows_cons F).trans (rows_perm (perm_set rs i r h).symm F)
/-- Own rows are rows that can be read. -/
theorem rows_weak {e : TypeId} {rs : List RowM} (F : List Chunk) : CSub (rowsCh e rs :: F) (rowsR rs :: F) :=
  CSub.weak (c := rowsCh e rs) (d := rowsR rs) ⟨fun w h r hr => ow_reads (h.1 r hr), fun b hb => by
    obtain ⟨r, hr, hf⟩ := hb
    exact ⟨r, hr, hf.2⟩, fun h => h.elim⟩ F
theorem hdrs_set (rs : List RowM) (i : Nat) (r : RowM) : hdrs (rs.set i r) = (hdrs rs).set i r.hdr := by simp [hdrs, List.map_set]
/-- A nil slice of rows. -/
theorem tr_nilR {P : Program} {N : NR} {M : Nat → Prop} {w0 : World} {L : Fr} {F : List Chunk} (t e : TypeId) {c : Code} {Q : Exit → Fr → List Chunk → Prop} (h : Tr P N M w0 c L (ow none t 0 (hdrs []) :: rowsCh e [] :: F) Q) : Tr P N M w0 c L F Q :=
  fun ds M1 w1 hb a w hl hm => h ds M1 w1 hb a w hl (nil_mem t ((rows_nil e F).mem hm))
/-- Rows, when one has been put to the end. -/
theorem rows_app {c0 : Chunk} {e : TypeId} {rs : List RowM} {r : RowM} {F F0 : List Chunk} [h : Cs F (c0 :: rowsCh e rs :: ow r.A e r.cap (ints r.xs) :: F0)] : CSub F (c0 :: rowsCh e (rs ++ [r]) :: F0) :=
  h.sub.trans (CSub.cons _ (rows_snoc (r := r) F0))
section
variable {P : Program} {N : NB} {M : Nat → Prop} {w0 : World} {L : Fr} {F F' : List Chunk} {K : Fr → List Chunk → Prop} {b : Bool} {o : Oper} {x y : Operand} {t e : TypeId} {z : Value} {bytes : Nat}
/-- append of one row's header. -/
theorem eAppR {A B rA : Option Addr} {n c cap rcap : Nat} {rs : List RowM} {xs : List Int} (ho : o.op = .call { callee := .builtin .append, args := #[x, y], argTypes := #[t, t] }) {d : Nat} (hdd : o.dst = some d) (hd : Nat.ble (d + 1) N.n = true) [h : SlTy P t e z 24]
    (hx : ev L x = some (.slice A n cap)) (hy : ev L y = some (.slice B 1 c)) [hp : PkOw F A e cap (hdrs rs) F'] [hr : Rd F B [.slice rA xs.length rcap]] (hn : n = rs.length) (hb : rs.length ≤ 1000000000000)
    (hK : ∀ (A' : Option Addr) (cap' : Nat), K (addL d (.slice A' (rs ++ [(⟨rA, rcap, xs⟩ : RowM)]).length cap') L) (ow A' e cap' (hdrs (rs ++ [(⟨rA, rcap, xs⟩ : RowM)])) :: F')) : Eff P N M w0 false o L F K :=
  eApp ho hdd hd (h := h) hx hy (hp := hp) (hr := hr) (by simpa using hn) rfl (fun u hu => by simp only [List.mem_singleton] at hu; subst hu; rfl) (by simp; omega) (by simp; omega) (fun A' cap' => by
    have := hK A' cap'
    rw [hdrs_append] at this
    simpa [hdrs, RowM.hdr] using this)
theorem rIdxR {A : Option Addr} {n c : Nat} {i : Int} {rs : List RowM} (ho : o.op = .indexAddr t x y) [h : SlTy P t e z bytes] (hx : ev L x = some (.slice A n c)) (hy : ev L y = some (.int .i64 i)) [hr : Rd F A (hdrs rs)] (h0 : 0 ≤ i) (h1 : i < n) (h2 : i < rs.length) :
    Stl P N M w0 o L F (.pointer (some ((A.getD a0).add i.toNat))) := rIdx ho (h := h) hx hy (hr := hr) h0 h1 (by simpa using h2)
/-- The header of a row. -/
theorem rLdR {A : Option Addr} {j : Nat} {rs : List RowM} (ho : o.op = .load t x) [h : ScTy P t] (hx : ev L x = some (.pointer (some ((A.getD a0).add j)))) [hr : Rd F A (hdrs rs)] (hj : j < rs.length) :
    Stl P N M w0 o L F (.slice (rs.getD j rowD).A (rs.getD j rowD).xs.length (rs.getD j rowD).cap) := rLdV ho (h := h) hx (hr := hr) (by
    rw [hdrs, List.getElem?_map, List.getElem?_eq_getElem hj, List.getD_eq_getElem?_getD, List.getElem?_eq_getElem hj]; rfl)
end
end Go.Proofs.Ytjmojhflnjbgaaa

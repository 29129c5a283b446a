/-
  CHUNKS JOINED. One sentence: two chunks taken as one, nested fields, and what a field of the program is in memory.
  Conditions: none. Plain theorems on the model's own words; no program is named here.
-/
import Derived.Test.YtjmojhflnjbgaaaSymI
set_option linter.unusedSimpArgs false
set_option linter.unusedVariables false
namespace Go.Proofs.Ytjmojhflnjbgaaa
open Go.RowKit

def both (c d : Chunk) : Chunk where
  foot b := c.foot b ∨ d.foot b
  excl := c.excl ∧ d.excl
  sat w := c.sat w ∧ d.sat w
  loc w w' h hs := ⟨c.loc w w' (fun b hb => h b (.inl hb)) hs.1, d.loc w w' (fun b hb => h b (.inr hb)) hs.2⟩
  cel w b hs hb := by
    rcases hb with hb | hb
    · exact c.cel w b hs.1 hb
    · exact d.cel w b hs.2 hb
theorem CSub.join (c d : Chunk) (F : List Chunk) : CSub (c :: d :: F) (both c d :: F) := fun M w0 w Z hm => by
  refine ⟨hm.upd, fun e he => ?_, ?_, fun e he hex b hb => ?_⟩
  · rcases List.mem_cons.1 he with rfl | he
    · exact ⟨hm.sat c (by simp), hm.sat d (by simp)⟩
    · exact hm.sat e (by simp [List.mem_append.1 he])
  · have h1 := hm.sep
    simp only [List.cons_append, List.pairwise_cons] at h1 ⊢
    refine ⟨fun e he hx b hb => ?_, h1.2.2⟩
    rcases hb with hb | hb
    · exact h1.1 e (List.mem_cons_of_mem _ he) (hx.imp (fun h => h.1) id) b hb
    · exact h1.2.1 e he (hx.imp (fun h => h.2) id) b hb
  · rcases List.mem_cons.1 he with rfl | he
    · rcases hb with hb | hb
      · exact hm.own c (by simp) hex.1 b hb
      · exact hm.own d (by simp) hex.2 b hb
    · exact hm.own e (by simp [List.mem_append.1 he]) hex b hb
instance Rd.bothL (c d : Chunk) (F : List Chunk) (A : Option Addr) (vs : List Value) [h : Rd [c] A vs] : Rd (both c d :: F) A vs := ⟨fun M w0 w hm => by
  refine h.rd (fun _ => True) w w ⟨⟨rfl, rfl, rfl, Nat.le_refl _, fun _ _ _ => rfl⟩, fun e he => ?_, List.pairwise_singleton _ _, fun _ _ _ _ _ => .inr trivial⟩
  simp only [List.mem_singleton] at he
  subst he
  exact (hm.sat _ (List.mem_cons_self ..)).1, fun b hb => by
  obtain ⟨x, hx, hf⟩ := h.ft b hb
  simp only [List.mem_singleton] at hx
  subst hx
  exact ⟨_, List.mem_cons_self .., .inl hf⟩⟩
instance Rd.bothR (c d : Chunk) (F : List Chunk) (A : Option Addr) (vs : List Value) [h : Rd [d] A vs] : Rd (both c d :: F) A vs := ⟨fun M w0 w hm => by
  refine h.rd (fun _ => True) w w ⟨⟨rfl, rfl, rfl, Nat.le_refl _, fun _ _ _ => rfl⟩, fun e he => ?_, List.pairwise_singleton _ _, fun _ _ _ _ _ => .inr trivial⟩
  simp only [List.mem_singleton] at he
  subst he
  exact (hm.sat _ (List.mem_cons_self ..)).2, fun b hb => by
  obtain ⟨x, hx, hf⟩ := h.ft b hb
  simp only [List.mem_singleton] at hx
  subst hx
  exact ⟨_, List.mem_cons_self .., .inr hf⟩⟩

section
variable {P : Program} {N : NR} {M : Nat → Prop} {w0 : World} {L : Fr} {F : List Chunk}
theorem tr_emptyI {A : Option Addr} {xs : List Int} {c : Code} {Q : Exit → Fr → List Chunk → Prop} [hr : Rd F A (ints xs)] (h : (A.isNone = true → xs = []) → Tr P N M w0 c L F Q) : Tr P N M w0 c L F Q := fun ds M1 w1 hb a w hl hm => by
  refine h (fun hn => ?_) ds M1 w1 hb a w hl hm
  cases xs with
  | nil => rfl
  | cons x xs =>
    obtain ⟨ad, rfl, _⟩ := hr.rd _ _ w hm 0 (by simp)
    cases hn
end

section
variable {P : Program} {N : NB} {M : Nat → Prop} {w0 : World} {L : Fr} {F F' : List Chunk} {K : Fr → List Chunk → Prop} {b : Bool} {o : Oper} {v z : Value} {x y : Operand} {t t' e : TypeId} {bytes : Nat}
/-- A field behind a field. -/
theorem rFldN {p : Addr} {f off i : Nat} (ho : o.op = .fieldAddr t x f) [h : FdTy P t f off] (hx : ev L x = some (.pointer (some (p.add i)))) : Stl P N M w0 o L F (.pointer (some (p.add (i + off)))) := by
  rw [← add_add]
  exact rFld ho (h := h) hx
end

/-- A field of the program, as it lies in memory. -/
structure GfM where
  p : Addr
  P : Int
  M : Int
  A0 : Option Addr
  c0 : Nat
  mod : List Int
  q : Int
  A1 : Option Addr
  c1 : Nat
  exp : List Int
  A2 : Option Addr
  c2 : Nat
  log : List Int
def GfM.cells (g : GfM) : List Value := [.int .i64 g.P, .int .i64 g.M, .slice g.A0 g.mod.length g.c0, .int .i64 g.q, .slice g.A1 g.exp.length g.c1, .slice g.A2 g.log.length g.c2]
def fact (φ : Prop) : Chunk where
  foot _ := False
  excl := False
  sat _ := φ
  loc _ _ _ h := h
  cel _ _ _ h := h.elim
/-- Cells at the head of a block, that are read alone. -/
def roB (p : Addr) (vs : List Value) : Chunk := both (fact (p = ⟨p.block, 0, none⟩)) (ro (some p) vs)
def gfR0 (g : GfM) : Chunk := both (roB g.p g.cells) (both (ro g.A0 (ints g.mod)) (both (ro g.A1 (ints g.exp)) (ro g.A2 (ints g.log))))
def gfR (g : GfM) : Chunk := { gfR0 g with excl := False }
/-- t: its type; e: int. -/
def gfO (t e : TypeId) (g : GfM) : Chunk := both (blk g.p t g.cells) (both (ow g.A0 e g.c0 (ints g.mod)) (both (ow g.A1 e g.c1 (ints g.exp)) (ow g.A2 e g.c2 (ints g.log))))
class HasGF (F : List Chunk) (g : GfM) : Prop where
  has : ∀ (M : Nat → Prop) (w0 w : World), Mem M w0 w F → (gfR g).sat w
  ft : ∀ b, (gfR g).foot b → ∃ c ∈ F, c.foot b
instance HasGF.tail (c : Chunk) (F : List Chunk) (g : GfM) [h : HasGF F g] : HasGF (c :: F) g := ⟨fun M w0 w hm => h.has M w0 w hm.tail, fun b hb => by
  obtain ⟨d, hd, hf⟩ := h.ft b hb
  exact ⟨d, List.mem_cons_of_mem _ hd, hf⟩⟩
instance HasGF.ofR (F : List Chunk) (g : GfM) : HasGF (gfR g :: F) g := ⟨fun _ _ _ hm => hm.sat _ (List.mem_cons_self ..), fun b hb => ⟨_, List.mem_cons_self .., hb⟩⟩
instance HasGF.ofO (t e : TypeId) (F : List Chunk) (g : GfM) : HasGF (gfO t e g :: F) g := ⟨fun _ _ _ hm => by
  have h := hm.sat _ (List.mem_cons_self ..)
  exact ⟨⟨h.1.1, blk_reads h.1⟩, ow_reads h.2.1, ow_reads h.2.2.1, ow_reads h.2.2.2⟩, fun b hb => ⟨_, List.mem_cons_self .., by
  rcases hb with (hb | hb) | hb | hb | hb
  · exact hb.elim
  · obtain ⟨_, ad, h1, h2⟩ := hb
    simp only [Option.some.injEq] at h1
    subst h1
    exact .inl h2
  · exact .inr (.inl hb.2)
  · exact .inr (.inr (.inl hb.2))
  · exact .inr (.inr (.inr hb.2))⟩⟩
instance Ent.gf (F : List Chunk) (g : GfM) (G : List Chunk) [h : HasGF F g] [k : Ent F G] : Ent F (gfR g :: G) := ⟨fun M w0 w hm c hc => by
  rcases List.mem_cons.1 hc with rfl | hc
  · exact h.has M w0 w hm
  · exact k.ent M w0 w hm c hc, fun g hg b hb => by
  rcases List.mem_cons.1 hg with rfl | hg
  · exact h.ft b hb
  · exact k.ft g hg b hb⟩
instance Rd.gf (F : List Chunk) (g : GfM) : Rd (gfR g :: F) (some g.p) g.cells := ⟨fun _ _ _ hm => (hm.sat _ (List.mem_cons_self ..)).1.2, fun b hb => ⟨_, List.mem_cons_self .., .inl (.inr hb)⟩⟩
instance Rd.gf0 (F : List Chunk) (g : GfM) : Rd (gfR g :: F) g.A0 (ints g.mod) := ⟨fun _ _ _ hm => (hm.sat _ (List.mem_cons_self ..)).2.1, fun b hb => ⟨_, List.mem_cons_self .., .inr (.inl hb)⟩⟩
instance Rd.gf1 (F : List Chunk) (g : GfM) : Rd (gfR g :: F) g.A1 (ints g.exp) := ⟨fun _ _ _ hm => (hm.sat _ (List.mem_cons_self ..)).2.2.1, fun b hb => ⟨_, List.mem_cons_self .., .inr (.inr (.inl hb))⟩⟩
instance Rd.gf2 (F : List Chunk) (g : GfM) : Rd (gfR g :: F) g.A2 (ints g.log) := ⟨fun _ _ _ hm => (hm.sat _ (List.mem_cons_self ..)).2.2.2, fun b hb => ⟨_, List.mem_cons_self .., .inr (.inr (.inr hb))⟩⟩
instance Rd.gfo (t e : TypeId) (F : List Chunk) (g : GfM) : Rd (gfO t e g :: F) (some g.p) g.cells := ⟨fun _ _ _ hm => blk_reads (hm.sat _ (List.mem_cons_self ..)).1, fun b hb => ⟨_, List.mem_cons_self .., .inl (by
  obtain ⟨_, ad, h1, h2⟩ := hb
  simp only [Option.some.injEq] at h1
  subst h1
  exact h2)⟩⟩
instance Rd.gfo0 (t e : TypeId) (F : List Chunk) (g : GfM) : Rd (gfO t e g :: F) g.A0 (ints g.mod) := ⟨fun _ _ _ hm => ow_reads (hm.sat _ (List.mem_cons_self ..)).2.1, fun b hb => ⟨_, List.mem_cons_self .., .inr (.inl hb.2)⟩⟩
instance Rd.gfo1 (t e : TypeId) (F : List Chunk) (g : GfM) : Rd (gfO t e g :: F) g.A1 (ints g.exp) := ⟨fun _ _ _ hm => ow_reads (hm.sat _ (List.mem_cons_self ..)).2.2.1, fun b hb => ⟨_, List.mem_cons_self .., .inr (.inr (.inl hb.2))⟩⟩
instance Rd.gfo2 (t e : TypeId) (F : List Chunk) (g : GfM) : Rd (gfO t e g :: F) g.A2 (ints g.log) := ⟨fun _ _ _ hm => ow_reads (hm.sat _ (List.mem_cons_self ..)).2.2.2, fun b hb => ⟨_, List.mem_cons_self .., .inr (.inr (.inr hb.2))⟩⟩
theorem gfO_excl (t e : TypeId) (g : GfM) : (gfO t e g).excl := ⟨trivial, trivial, trivial, trivial⟩
theorem csub_gfO (t e : TypeId) (g : GfM) (F : List Chunk) : CSub (blk g.p t g.cells :: ow g.A0 e g.c0 (ints g.mod) :: ow g.A1 e g.c1 (ints g.exp) :: ow g.A2 e g.c2 (ints g.log) :: F) (gfO t e g :: F) :=
  ((CSub.cons _ (CSub.cons _ (CSub.join _ _ F))).trans (CSub.cons _ (CSub.join _ _ F))).trans (CSub.join _ _ F)
end Go.Proofs.Ytjmojhflnjbgaaa

/-
  CHUNKS, AND WHAT EACH OPERATION DOES. One sentence: slices, structs and cells as chunks; a rule for each operation that only reads or reckons.
  Conditions: none. Plain theorems on the model's own words; no program is named here.
-/
import Derived.Test.YtjmojhflnjbgaaaSymC
import Derived.IntWalk
namespace Go.Proofs.Ytjmojhflnjbgaaa
open Go.RowKit

def ints (xs : List Int) : List Value := xs.map (Value.int .i64)
def bools (bs : List Bool) : List Value := bs.map Value.bool
@[simp] theorem ints_length (xs : List Int) : (ints xs).length = xs.length := by simp [ints]
@[simp] theorem bools_length (xs : List Bool) : (bools xs).length = xs.length := by simp [bools]
theorem ints_nil : ints [] = [] := rfl
theorem ints_append (xs ys : List Int) : ints (xs ++ ys) = ints xs ++ ints ys := by simp [ints]
theorem ints_set (xs : List Int) (i : Nat) (x : Int) : ints (xs.set i x) = (ints xs).set i (.int .i64 x) := by simp [ints, List.map_set]
theorem bools_set (xs : List Bool) (i : Nat) (x : Bool) : bools (xs.set i x) = (bools xs).set i (.bool x) := by simp [bools, List.map_set]

theorem block_add (a : Addr) (n : Nat) : (a.add n).block = a.block := by unfold Addr.add; split <;> rfl
theorem add_new (b i : Nat) : (⟨b, 0, none⟩ : Addr).add i = ⟨b, i, none⟩ := by
  unfold Addr.add
  split
  · rename_i h; subst h; rfl
  · simp
theorem add_add (a : Addr) (i j : Nat) : (a.add i).add j = a.add (i + j) := by
  unfold Addr.add
  by_cases hi : i = 0 <;> by_cases hj : j = 0 <;> simp [hi, hj, Nat.add_assoc]

theorem cell_isCells {w : World} {a : Addr} {v : Value} (h : w.cell? a = some v) : ∃ o : Obj, w.heap[a.block]? = some o ∧ o.isCells = true := by
  unfold World.cell? at h
  cases ho : w.heap[a.block]? with
  | none => simp [ho] at h
  | some o => exact ⟨o, rfl, by cases o <;> simp_all [Obj.isCells]⟩
/-- Cells that are read alone. -/
def ro (A : Option Addr) (vs : List Value) : Chunk where
  foot b := vs ≠ [] ∧ ∃ ad, A = some ad ∧ ad.block = b
  excl := False
  sat w := ∀ (j : Nat) (hj : j < vs.length), ∃ ad, A = some ad ∧ w.cell? (ad.add j) = some vs[j]
  loc w w' h hs j hj := by
    obtain ⟨ad, rfl, hc⟩ := hs j hj
    refine ⟨ad, rfl, ?_⟩
    rw [World.cell?_of_block (w := w) (h _ ⟨fun h0 => by subst h0; simp at hj, ad, rfl, (block_add ad j).symm⟩)]
    exact hc
  cel w b hs hb := by
    obtain ⟨hne, ad, rfl, rfl⟩ := hb
    have hpos : 0 < vs.length := List.length_pos_iff.2 hne
    obtain ⟨ad', h1, h2⟩ := hs 0 hpos
    simp only [Option.some.injEq] at h1
    subst h1
    have := cell_isCells h2
    rwa [block_add] at this

/-- A slice of the walk's own: nil, or at the head of a block whose first cells are vs. -/
def ow (A : Option Addr) (e : TypeId) (cap : Nat) (vs : List Value) : Chunk where
  foot b := ∃ ad, A = some ad ∧ ad.block = b
  excl := True
  sat w := w.ownsRow 0 e 1 (.slice A vs.length cap) vs.length vs
  loc w w' h hs := by
    obtain ⟨h0, h1⟩ := hs
    refine ⟨h0, ?_⟩
    rcases h1 with h1 | ⟨g, c, cur, hv, hb, hh, hr⟩
    · exact .inl h1
    · refine .inr ⟨g, c, cur, hv, hb, ?_, hr⟩
      simp only [Value.slice.injEq] at hv
      rw [h g ⟨_, hv.1, rfl⟩]
      exact hh
  cel w b hs hb := by
    obtain ⟨ad, rfl, rfl⟩ := hb
    rcases hs.2 with ⟨h1, _⟩ | ⟨g, c, cur, hv, hb, hh, _⟩
    · cases h1
    · simp only [Value.slice.injEq, Option.some.injEq] at hv
      rw [hv.1]
      exact ⟨_, hh, rfl⟩

/-- A block of the walk's own, known whole (a struct, a variable). -/
def blk (p : Addr) (e : TypeId) (vs : List Value) : Chunk where
  foot b := p.block = b
  excl := True
  sat w := p = ⟨p.block, 0, none⟩ ∧ w.heap[p.block]? = some (.cells vs.toArray e (0, 0))
  loc w w' h hs := ⟨hs.1, (h _ rfl).trans hs.2⟩
  cel w b hs hb := by
    subst hb
    exact ⟨_, hs.2, rfl⟩

/-- What can be read. -/
class Rd (F : List Chunk) (A : Option Addr) (vs : outParam (List Value)) : Prop where
  rd : ∀ (M : Nat → Prop) (w0 w : World), Mem M w0 w F → (ro A vs).sat w
  ft : ∀ b, (ro A vs).foot b → ∃ c ∈ F, c.foot b

instance Rd.tail (c : Chunk) (F : List Chunk) (A : Option Addr) (vs : List Value) [h : Rd F A vs] : Rd (c :: F) A vs := ⟨fun M w0 w hm => h.rd M w0 w hm.tail, fun b hb => by
  obtain ⟨d, hd, hf⟩ := h.ft b hb
  exact ⟨d, List.mem_cons_of_mem _ hd, hf⟩⟩
instance Rd.ofRo (F : List Chunk) (A : Option Addr) (vs : List Value) : Rd (ro A vs :: F) A vs := ⟨fun _ _ _ hm => hm.sat _ (List.mem_cons_self ..), fun b hb => ⟨_, List.mem_cons_self .., hb⟩⟩
theorem ow_reads {A : Option Addr} {e : TypeId} {cap : Nat} {vs : List Value} {w : World} (h : (ow A e cap vs).sat w) : (ro A vs).sat w := by
  intro j hj
  rcases h.2 with ⟨_, h0⟩ | ⟨g, c, cur, hv, _⟩
  · omega
  · simp only [Value.slice.injEq] at hv
    obtain ⟨rfl, _⟩ := hv
    exact ⟨_, rfl, World.ownsRow.cells h (g := g) rfl j _ (List.getElem?_eq_getElem hj)⟩
instance Rd.ofOw (F : List Chunk) (A : Option Addr) (e : TypeId) (cap : Nat) (vs : List Value) : Rd (ow A e cap vs :: F) A vs := ⟨fun _ _ _ hm => ow_reads (hm.sat _ (List.mem_cons_self ..)), fun b hb => ⟨_, List.mem_cons_self .., hb.2⟩⟩
theorem blk_reads {p : Addr} {e : TypeId} {vs : List Value} {w : World} (h : (blk p e vs).sat w) : (ro (some p) vs).sat w := by
  intro j hj
  refine ⟨_, rfl, ?_⟩
  rw [h.1, add_new]
  simp [World.cell?, h.2, hj]
instance Rd.ofBlk (F : List Chunk) (p : Addr) (e : TypeId) (vs : List Value) : Rd (blk p e vs :: F) (some p) vs := ⟨fun _ _ _ hm => blk_reads (hm.sat _ (List.mem_cons_self ..)), fun b hb => ⟨_, List.mem_cons_self .., by
  obtain ⟨_, ad, h1, h2⟩ := hb
  simp only [Option.some.injEq] at h1
  subst h1
  exact h2⟩⟩

/-- One chunk out of many, and what is left. -/
class PkOw (F : List Chunk) (A : Option Addr) (e : outParam TypeId) (cap : outParam Nat) (vs : outParam (List Value)) (F' : outParam (List Chunk)) : Prop where
  perm : F.Perm (ow A e cap vs :: F')
instance PkOw.head (F : List Chunk) (A : Option Addr) (e : TypeId) (cap : Nat) (vs : List Value) : PkOw (ow A e cap vs :: F) A e cap vs F := ⟨List.Perm.refl _⟩
instance PkOw.tail (c : Chunk) (F F' : List Chunk) (A : Option Addr) (e : TypeId) (cap : Nat) (vs : List Value) [h : PkOw F A e cap vs F'] : PkOw (c :: F) A e cap vs (c :: F') := ⟨(h.perm.cons c).trans (List.Perm.swap ..)⟩
class PkBlk (F : List Chunk) (p : Addr) (e : outParam TypeId) (vs : outParam (List Value)) (F' : outParam (List Chunk)) : Prop where
  perm : F.Perm (blk p e vs :: F')
instance PkBlk.head (F : List Chunk) (p : Addr) (e : TypeId) (vs : List Value) : PkBlk (blk p e vs :: F) p e vs F := ⟨List.Perm.refl _⟩
instance PkBlk.tail (c : Chunk) (F F' : List Chunk) (p : Addr) (e : TypeId) (vs : List Value) [h : PkBlk F p e vs F'] : PkBlk (c :: F) p e vs (c :: F') := ⟨(h.perm.cons c).trans (List.Perm.swap ..)⟩

/-- This very chunk, and what is left. -/
class Pk (F : List Chunk) (c : Chunk) (F' : outParam (List Chunk)) : Prop where
  perm : F.Perm (c :: F')
instance Pk.head (F : List Chunk) (c : Chunk) : Pk (c :: F) c F := ⟨List.Perm.refl _⟩
instance Pk.tail (d c : Chunk) (F F' : List Chunk) [h : Pk F c F'] : Pk (d :: F) c (d :: F') := ⟨(h.perm.cons d).trans (List.Perm.swap ..)⟩
class Cs (F G : List Chunk) : Prop where
  sub : CSub F G
instance Cs.nil (F : List Chunk) : Cs F [] := ⟨CSub.nil F⟩
instance Cs.cons (F F' : List Chunk) (c : Chunk) (G : List Chunk) [h : Pk F c F'] [k : Cs F' G] : Cs F (c :: G) := ⟨(CSub.perm h.perm).trans (CSub.cons c k.sub)⟩
theorem cs (F G : List Chunk) [h : Cs F G] : CSub F G := h.sub

/-- All of a callee's chunks can be read. -/
class Ent (F G : List Chunk) : Prop where
  ent : ∀ (M : Nat → Prop) (w0 w : World), Mem M w0 w F → ∀ c ∈ G, c.sat w
  ft : ∀ g ∈ G, ∀ b, g.foot b → ∃ c ∈ F, c.foot b
instance Ent.nil (F : List Chunk) : Ent F [] := ⟨fun _ _ _ _ _ h => by simp at h, fun _ h => by simp at h⟩
instance Ent.cons (F : List Chunk) (A : Option Addr) (vs : List Value) (G : List Chunk) [h : Rd F A vs] [k : Ent F G] : Ent F (ro A vs :: G) := ⟨fun M w0 w hm c hc => by
  rcases List.mem_cons.1 hc with rfl | hc
  · exact h.rd M w0 w hm
  · exact k.ent M w0 w hm c hc, fun g hg b hb => by
  rcases List.mem_cons.1 hg with rfl | hg
  · exact h.ft b hb
  · exact k.ft g hg b hb⟩

/-! ### Types -/
class SlTy (P : Program) (t : TypeId) (e : outParam TypeId) (z : outParam Value) (bytes : outParam Nat) : Prop where
  und : P.underlying t = some (.slice e)
  inf : (P.info? e).map (fun i => (i.zero, i.size, i.bytes)) = some (some z, 1, bytes)
  one : z.cells = #[z]
class ScTy (P : Program) (t : TypeId) : Prop where
  und : ∃ d, P.underlying t = some d ∧ (match d with | .struct _ => False | .array _ _ => False | _ => True)
  inf : (P.info? t).map (·.size) = some 1
class AgTy (P : Program) (t : TypeId) (n : outParam Nat) : Prop where
  und : ∃ fs, P.underlying t = some (.struct fs)
  inf : (P.info? t).map (·.size) = some n
def fdOff (P : Program) (t : TypeId) (f : Nat) : Option Nat :=
  match P.underlying t with
  | some (.struct fs) => match fs[f]? with
    | some fd => match P.info? fd.type with
      | some i => if i.size = 0 then none else some fd.offset
      | none => none
    | none => none
  | _ => none
class FdTy (P : Program) (t : TypeId) (f : Nat) (off : outParam Nat) : Prop where
  off : fdOff P t f = some off
theorem FdTy.fd {P : Program} {t : TypeId} {f off : Nat} (h : FdTy P t f off) : ∃ fs fd, P.underlying t = some (.struct fs) ∧ fs[f]? = some fd ∧ fd.offset = off ∧ ∃ i, P.info? fd.type = some i ∧ i.size ≠ 0 := by
  have h0 := h.off
  unfold fdOff at h0
  split at h0
  · rename_i fs hu
    split at h0
    · rename_i fd hf
      split at h0
      · rename_i i hi
        split at h0
        · cases h0
        · rename_i hs
          exact ⟨fs, fd, hu, hf, by simpa using h0, i, hi, hs⟩
      · cases h0
    · cases h0
  · cases h0
def isSc (P : Program) (t : TypeId) : Bool :=
  match P.underlying t with
  | some (.struct _) => false
  | some (.array _ _) => false
  | some _ => (P.info? t).map (·.size) == some 1
  | none => false
def isAgN (P : Program) (t : TypeId) : Option Nat :=
  match P.underlying t with
  | some (.struct _) => (P.info? t).map (·.size)
  | _ => none
theorem scTy_of {P : Program} {t : TypeId} (h : isSc P t = true) : ScTy P t := by
  unfold isSc at h
  cases hu : P.underlying t with
  | none => simp [hu] at h
  | some d =>
    rw [hu] at h
    cases d <;> first | (simp at h; done) | exact ⟨⟨_, hu, trivial⟩, by simpa using h⟩
theorem agTy_of {P : Program} {t : TypeId} {n : Nat} (h : isAgN P t = some n) : AgTy P t n := by
  unfold isAgN at h
  split at h
  · rename_i fs hu
    exact ⟨⟨fs, hu⟩, h⟩
  · cases h

section
variable {P : Program} {N : NB} {M : Nat → Prop} {w0 : World} {L : Fr} {F : List Chunk} {o : Oper} {v : Value}

theorem stl_pure (h : ∀ a, Holds N a L → execOp a.eval o = pure (.value v)) : Stl P N M w0 o L F v := fun a w hl _ => by rw [h a hl]; rfl

/-- Operations that only look at slots. -/
def pev (L : Fr) : Op → Option Value
  | .move x => ev L x
  | .assign x => ev L x
  | .binOp op _ x y _ => match ev L x, ev L y with
    | some (.int .i64 a), some (.int .i64 b) => (match op with
      | .lss => some (.bool (decide (a < b)))
      | .leq => some (.bool (decide (a ≤ b)))
      | .gtr => some (.bool (decide (a > b)))
      | .geq => some (.bool (decide (a ≥ b)))
      | .eql => some (.bool (decide (a = b)))
      | .neq => some (.bool (decide (¬ a = b)))
      | _ => none)
    | _, _ => none
  | .extract x i => match ev L x with
    | some (.tuple ⟨vs⟩) => vs[i]?
    | _ => none
  | _ => none

theorem pev_ok {op : Op} (h : pev L op = some v) (ho : o.op = op) : Stl P N M w0 o L F v := stl_pure fun a hl => by
  cases op <;> simp only [pev] at h <;> first | (cases h; done) | skip
  case move x => simp only [execOp, ho, hl.eval h]
  case assign x => simp only [execOp, ho, hl.eval h]
  case extract x i =>
    split at h
    · rename_i vs hx
      simp only [execOp, ho, hl.eval hx, Instr.extract]
      simp only [List.getElem?_toArray] at h ⊢
      simp [h]
    · cases h
  case binOp op t x y t' =>
    split at h
    · rename_i p q hx hy
      cases op <;> simp only at h <;> first | (cases h; done) | skip
      all_goals (
        simp only [Option.some.injEq] at h
        subst h
        simp only [execOp, ho, hl.eval hx, hl.eval hy, eqGuard, binOp, Op.intCmp, ne_eq, not_true_eq_false, if_false]
        try rfl)
      all_goals simp [BEq.beq, bne]
    · cases h

theorem pu {x : Bool} {ops : List Oper} {K : Fr → List Chunk → Prop} (he : isEff o.op = false) (hg : o.guard = none) {d : Nat} (hdd : o.dst = some d) (hd : Nat.ble (d + 1) N.n = true) (h : pev L o.op = some v) (k : K (addL d v L) F) : StepO P N M w0 x ops o L F K :=
  st he hg hdd hd (pev_ok h rfl) k
end
end Go.Proofs.Ytjmojhflnjbgaaa

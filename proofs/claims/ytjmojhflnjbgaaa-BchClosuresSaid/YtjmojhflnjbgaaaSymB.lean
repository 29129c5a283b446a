/-
  FRAMES AND MEMORY AS LISTS. One sentence: a frame is known by a list of slots with their values, memory by a list of chunks, and code is walked over these two lists.
  Conditions: none. Plain theorems on the model's own words; no program is named here.
-/
import Derived.Test.YtjmojhflnjbgaaaSymA
import Derived.RangeFuncFrom
import Derived.RangeFuncLeaves
import Derived.RangeFuncOwn
import Derived.OrdersIn
namespace Go.Proofs.Ytjmojhflnjbgaaa
open Go.RowKit

abbrev Fr := List (Nat × Value)
def Fr.get : Fr → Nat → Option Value
  | [], _ => none
  | (k, v) :: r, t => match Nat.beq k t with | true => some v | false => Fr.get r t

/-- How many slots a frame has, and the blocks of the marks that wait for the function's end. -/
structure NB where
  n : Nat
  ds : List Nat
def dfs (ds : List Nat) : List Deferred := ds.map fun D => { target := .collected D, args := #[] }
structure Holds (N : NB) (a : Act) (L : Fr) : Prop where
  size : a.tmps.size = N.n
  defers : a.defers = dfs N.ds
  get : ∀ t v, Fr.get L t = some v → a.tmps.getD t undef = v ∧ t < N.n

def putL : Option Nat → Value → Fr → Fr
  | some d, v, L => (d, v) :: L
  | none, _, L => L
def dstOk (N : Nat) : Option Nat → Bool
  | some d => Nat.ble (d + 1) N
  | none => true

theorem Holds.put {N : NB} {a : Act} {L : Fr} (h : Holds N a L) {d : Option Nat} (hd : dstOk N.n d = true) (v : Value) : Holds N (a.put d v) (putL d v L) := by
  cases d with
  | none => exact h
  | some d =>
    have hlt : d < N.n := by
      have := Nat.le_of_ble_eq_true hd
      omega
    refine ⟨by simp [Act.put, h.size], h.defers, fun t u hg => ?_⟩
    simp only [putL, Fr.get] at hg
    by_cases he : d = t
    · subst he
      have : Nat.beq d d = true := by simp
      rw [this] at hg
      simp only [Option.some.injEq] at hg
      subst hg
      refine ⟨?_, hlt⟩
      simp [Act.put, h.size, hlt]
    · have : Nat.beq d t = false := Bool.eq_false_iff.2 (fun h => he (Nat.eq_of_beq_eq_true h))
      rw [this] at hg
      obtain ⟨h1, h2⟩ := h.get t u hg
      refine ⟨?_, h2⟩
      rw [← h1]
      simp [Act.put, Array.getElem?_setIfInBounds_ne he]

def addL (d : Nat) (v : Value) (L : Fr) : Fr := (d, v) :: L
theorem Holds.add {N : NB} {a : Act} {L : Fr} (h : Holds N a L) {o : Option Nat} {d : Nat} (ho : o = some d) (hd : Nat.ble (d + 1) N.n = true) (v : Value) : Holds N (a.put o v) (addL d v L) := by
  subst ho
  exact h.put (d := some d) hd v

def FSub (L : Fr) : Fr → Prop
  | [] => True
  | p :: r => Fr.get L p.1 = some p.2 ∧ FSub L r

theorem FSub.get {L : Fr} : ∀ {M : Fr}, FSub L M → ∀ t v, Fr.get M t = some v → Fr.get L t = some v
  | [], _, t, v, h => by simp [Fr.get] at h
  | p :: r, hs, t, v, h => by
    simp only [Fr.get] at h
    by_cases he : p.1 = t
    · have : Nat.beq p.1 t = true := by simpa using he
      rw [this] at h
      simp only [Option.some.injEq] at h
      rw [← he, ← h]; exact hs.1
    · have : Nat.beq p.1 t = false := Bool.eq_false_iff.2 (fun h => he (Nat.eq_of_beq_eq_true h))
      rw [this] at h
      exact FSub.get hs.2 t v h
theorem Holds.sub {N : NB} {a : Act} {L M : Fr} (h : Holds N a L) (hs : FSub L M) : Holds N a M := ⟨h.size, h.defers, fun t v hg => h.get t v (hs.get t v hg)⟩

def ev (L : Fr) : Operand → Option Value
  | .tmp t => Fr.get L t
  | .const v => some v
  | .global g => some (.pointer (some ⟨g, 0, none⟩))
  | .func f => some (.func (.func f) #[] #[])

theorem Holds.eval {N : NB} {a : Act} {L : Fr} (h : Holds N a L) {x : Operand} {v : Value} (hx : ev L x = some v) : a.eval x = v := by
  cases x with
  | tmp t => exact (h.get t v hx).1
  | const u => exact Option.some.inj hx
  | global g => exact Option.some.inj hx
  | func f => exact Option.some.inj hx

def evs (L : Fr) : List Operand → Option (List Value)
  | [] => some []
  | x :: r => match ev L x, evs L r with
    | some v, some vs => some (v :: vs)
    | _, _ => none
theorem Holds.evals {N : NB} {a : Act} {L : Fr} (h : Holds N a L) : ∀ {xs : List Operand} {vs : List Value}, evs L xs = some vs → xs.map a.eval = vs
  | [], vs, hx => by simp [evs] at hx; subst hx; rfl
  | x :: r, vs, hx => by
    simp only [evs] at hx
    split at hx
    · rename_i v us h1 h2
      simp only [Option.some.injEq] at hx
      subst hx
      simp [h.eval h1, h.evals h2]
    · cases hx

def EvL (L : Fr) : List Operand → List Value → Prop
  | [], [] => True
  | x :: r, v :: vs => ev L x = some v ∧ EvL L r vs
  | _, _ => False
theorem Holds.evalL {N : NB} {a : Act} {L : Fr} (h : Holds N a L) : ∀ {xs : List Operand} {vs : List Value}, EvL L xs vs → xs.map a.eval = vs
  | [], [], _ => rfl
  | x :: r, v :: vs, hx => by simp [h.eval hx.1, h.evalL hx.2]
  | [], _ :: _, hx => hx.elim
  | _ :: _, [], hx => hx.elim

/-! ### Memory -/

/-- A piece of memory: the blocks it stands on, whether it stands there alone, and what it says. -/
structure Chunk where
  foot : Nat → Prop
  excl : Prop
  sat : World → Prop
  loc : ∀ w w' : World, (∀ b, foot b → w'.heap[b]? = w.heap[b]?) → sat w → sat w'
  cel : ∀ w b, sat w → foot b → ∃ o : Obj, w.heap[b]? = some o ∧ o.isCells = true
theorem Chunk.lt (c : Chunk) (w : World) (b : Nat) (h : c.sat w) (hf : c.foot b) : b < w.heap.size := by
  obtain ⟨o, ho, _⟩ := c.cel w b h hf
  exact (Array.getElem?_eq_some_iff.1 ho).1

def Chunk.sep (c d : Chunk) : Prop := (c.excl ∨ d.excl) → ∀ b, c.foot b → ¬ d.foot b
theorem Chunk.sep_symm {c d : Chunk} (h : c.sep d) : d.sep c := fun he b hd hc => h (he.symm) b hc hd

/-- From w to w', below w's own size, nothing has turned but the blocks of M. -/
structure Upd (M : Nat → Prop) (w w' : World) : Prop where
  os : w'.os = w.os
  tape : w'.tape = w.tape
  output : w'.output = w.output
  size : w.heap.size ≤ w'.heap.size
  block : ∀ k, k < w.heap.size → ¬ M k → w'.heap[k]? = w.heap[k]?
theorem Upd.of_ext {M : Nat → Prop} {w w' : World} (h : Ext w w') : Upd M w w' := ⟨h.os, h.tape, h.output, h.size, fun k hk _ => h.block k hk⟩
theorem Upd.ext {w w' : World} (h : Upd (fun _ => False) w w') : Ext w w' := ⟨h.os, h.tape, h.output, h.size, fun k hk => h.block k hk id⟩
theorem Upd.trans {M M' : Nat → Prop} {a b c : World} (h : Upd M a b) (k : Upd M' b c) (hM : ∀ x, x < a.heap.size → M' x → M x) : Upd M a c :=
  ⟨k.os.trans h.os, k.tape.trans h.tape, k.output.trans h.output, Nat.le_trans h.size k.size, fun x hx hm => (k.block x (Nat.lt_of_lt_of_le hx h.size) (fun h' => hm (hM x hx h'))).trans (h.block x hx hm)⟩

structure Mem (M : Nat → Prop) (w0 w : World) (F : List Chunk) : Prop where
  upd : Upd M w0 w
  sat : ∀ c ∈ F, c.sat w
  sep : F.Pairwise Chunk.sep
  own : ∀ c ∈ F, c.excl → ∀ b, c.foot b → w0.heap.size ≤ b ∨ M b

section
variable {M : Nat → Prop} {w0 w w' : World} {F G : List Chunk} {c : Chunk}

theorem Chunk.ext (hs : c.sat w) (h : Ext w w') : c.sat w' := c.loc w w' (fun b hb => h.block b (c.lt w b hs hb)) hs

theorem Mem.ext (h : Mem M w0 w F) (hx : Ext w w') : Mem M w0 w' F :=
  ⟨h.upd.trans (Upd.of_ext hx (M := M)) (fun _ _ h => h), fun c hc => Chunk.ext (h.sat c hc) hx, h.sep, h.own⟩

theorem Mem.perm (h : Mem M w0 w F) (hp : F.Perm G) : Mem M w0 w G :=
  ⟨h.upd, fun c hc => h.sat c (hp.mem_iff.2 hc), h.sep.perm hp (fun h => Chunk.sep_symm h), fun c hc => h.own c (hp.mem_iff.2 hc)⟩

theorem Mem.tail (h : Mem M w0 w (c :: F)) : Mem M w0 w F :=
  ⟨h.upd, fun d hd => h.sat d (List.mem_cons_of_mem _ hd), (List.pairwise_cons.1 h.sep).2, fun d hd => h.own d (List.mem_cons_of_mem _ hd)⟩

/-- New chunks on new blocks. -/
theorem Mem.add (h : Mem M w0 w F) (hx : Ext w w') (hG : ∀ c ∈ G, c.sat w' ∧ ∀ b, c.foot b → w.heap.size ≤ b) (hs : G.Pairwise Chunk.sep) : Mem M w0 w' (G ++ F) := by
  have h' := h.ext hx
  refine ⟨h'.upd, fun c hc => ?_, ?_, fun c hc he b hb => ?_⟩
  · rcases List.mem_append.1 hc with hc | hc
    · exact (hG c hc).1
    · exact h'.sat c hc
  · refine List.pairwise_append.2 ⟨hs, h'.sep, fun c hc d hd _ b hb hb' => ?_⟩
    have h1 := (hG c hc).2 b hb
    have h2 := d.lt w b (h.sat d hd) hb'
    omega
  · rcases List.mem_append.1 hc with hc | hc
    · exact .inl (Nat.le_trans h.upd.size ((hG c hc).2 b hb))
    · exact h'.own c hc he b hb

/-- One chunk in another's place, after a change of its own blocks alone. -/
theorem Mem.change {d : Chunk} (h : Mem M w0 w (c :: F)) (he : c.excl) (hu : Upd c.foot w w') (hd : d.sat w') (hfoot : ∀ b, d.foot b → c.foot b ∨ w.heap.size ≤ b) : Mem M w0 w' (d :: F) := by
  obtain ⟨hsep, hsepF⟩ := List.pairwise_cons.1 h.sep
  refine ⟨h.upd.trans hu (fun x hx hc => ?_), fun e hm => ?_, List.pairwise_cons.2 ⟨fun e hm hex b hb hb' => ?_, hsepF⟩, fun e hm hex b hb => ?_⟩
  · rcases h.own c (List.mem_cons_self ..) he x hc with h1 | h1
    · omega
    · exact h1
  · rcases List.mem_cons.1 hm with rfl | hm
    · exact hd
    · have hs := h.sat e (List.mem_cons_of_mem _ hm)
      exact e.loc w w' (fun b hb => hu.block b (e.lt w b hs hb) (fun hc => hsep e hm (.inl he) b hc hb)) hs
  · rcases hfoot b hb with h1 | h1
    · exact hsep e hm (.inl he) b h1 hb'
    · have := e.lt w b (h.sat e (List.mem_cons_of_mem _ hm)) hb'
      omega
  · rcases List.mem_cons.1 hm with rfl | hm
    · rcases hfoot b hb with h1 | h1
      · exact h.own c (List.mem_cons_self ..) he b h1
      · exact .inl (Nat.le_trans h.upd.size h1)
    · exact h.own e (List.mem_cons_of_mem _ hm) hex b hb

theorem Mem.nil (w : World) : Mem M w w [] := ⟨⟨rfl, rfl, rfl, Nat.le_refl _, fun _ _ _ => rfl⟩, fun _ h => by simp at h, List.Pairwise.nil, fun _ h => by simp at h⟩

/-- What F says, G says too, whatever stands beside. -/
def CSub (F G : List Chunk) : Prop := ∀ (M : Nat → Prop) (w0 w : World) (Z : List Chunk), Mem M w0 w (F ++ Z) → Mem M w0 w (G ++ Z)
theorem CSub.mem {F G : List Chunk} (h : CSub F G) (hm : Mem M w0 w F) : Mem M w0 w G := by
  have := h M w0 w [] (by simpa using hm)
  simpa using this
theorem CSub.refl (F : List Chunk) : CSub F F := fun _ _ _ _ h => h
theorem CSub.trans {F G H : List Chunk} (h : CSub F G) (k : CSub G H) : CSub F H := fun M w0 w Z hm => k M w0 w Z (h M w0 w Z hm)
theorem CSub.perm {F G : List Chunk} (h : F.Perm G) : CSub F G := fun _ _ _ Z hm => hm.perm (h.append_right Z)
theorem CSub.cons {F G : List Chunk} (c : Chunk) (h : CSub F G) : CSub (c :: F) (c :: G) := fun M w0 w Z hm =>
  (h M w0 w (c :: Z) (hm.perm (List.perm_middle.symm))).perm List.perm_middle
theorem CSub.drop (c : Chunk) (F : List Chunk) : CSub (c :: F) F := fun _ _ _ _ hm => Mem.tail hm
theorem CSub.nil (F : List Chunk) : CSub F [] := fun M w0 w Z hm => by
  induction F with
  | nil => exact hm
  | cons c F ih => exact ih hm.tail

/-- d says less than c, on no other blocks. -/
structure Weak (c d : Chunk) : Prop where
  sat : ∀ w, c.sat w → d.sat w
  foot : ∀ b, d.foot b → c.foot b
  excl : d.excl → c.excl
theorem CSub.weak {c d : Chunk} (h : Weak c d) (F : List Chunk) : CSub (c :: F) (d :: F) := fun M w0 w Z hm => by
  obtain ⟨hsep, hsepF⟩ := List.pairwise_cons.1 hm.sep
  refine ⟨hm.upd, fun e he => ?_, List.pairwise_cons.2 ⟨fun e he hex b hb => hsep e he (hex.elim (fun h' => .inl (h.excl h')) .inr) b (h.foot b hb), hsepF⟩, fun e he hex b hb => ?_⟩
  · rcases List.mem_cons.1 he with rfl | he
    · exact h.sat w (hm.sat c (List.mem_cons_self ..))
    · exact hm.sat e (List.mem_cons_of_mem _ he)
  · rcases List.mem_cons.1 he with rfl | he
    · exact hm.own c (List.mem_cons_self ..) (h.excl hex) b (h.foot b hb)
    · exact hm.own e (List.mem_cons_of_mem _ he) hex b hb
/-- What is shared may be said twice. -/
theorem CSub.dup {c d : Chunk} (h : Weak c d) (hc : ¬ c.excl) (F : List Chunk) : CSub (c :: F) (d :: c :: F) := fun M w0 w Z hm => by
  have h1 := CSub.weak h F M w0 w Z hm
  refine ⟨hm.upd, fun e he => ?_, List.pairwise_cons.2 ⟨fun e he => ?_, hm.sep⟩, fun e he => ?_⟩
  · rcases List.mem_cons.1 he with rfl | he
    · exact h1.sat _ (List.mem_cons_self ..)
    · exact hm.sat e he
  · rcases List.mem_cons.1 he with rfl | he
    · exact fun hex => (hex.elim (fun h' => hc (h.excl h')) hc).elim
    · exact (List.pairwise_cons.1 h1.sep).1 e he
  · rcases List.mem_cons.1 he with rfl | he
    · exact h1.own _ (List.mem_cons_self ..)
    · exact hm.own e he
end

/-! ### Code -/

/-- How many slots, and in which round of a range over a function (none: in no round). -/
structure NR where
  n : Nat
  rd : Option Nat
/-- From the base (M, w0) to the base (M1, w1): what a walk may rely on and has to keep. -/
structure Bs (M : Nat → Prop) (w0 : World) (M1 : Nat → Prop) (w1 : World) (ds : List Nat) : Prop where
  upd : Upd M w0 w1
  old : ∀ b, M1 b → M b ∨ w0.heap.size ≤ b
  nd : ds.Nodup
  mark : ∀ D ∈ ds, w0.heap.size ≤ D ∧ D < w1.heap.size ∧ ¬ M1 D ∧ w1.heap[D]? = some (.deferred (some []))
theorem Bs.refl (M : Nat → Prop) (w : World) : Bs M w M w [] := ⟨⟨rfl, rfl, rfl, Nat.le_refl _, fun _ _ _ => rfl⟩, fun _ h => .inl h, List.nodup_nil, fun _ h => by simp at h⟩
theorem Bs.total {M M1 : Nat → Prop} {w0 w1 w : World} {ds : List Nat} {F : List Chunk} (h : Bs M w0 M1 w1 ds) (hm : Mem M1 w1 w F) : Mem M w0 w F :=
  ⟨h.upd.trans hm.upd (fun x hx hM => (h.old x hM).resolve_right (by omega)), hm.sat, hm.sep, fun c hc he b hb => by
    rcases hm.own c hc he b hb with h1 | h1
    · exact .inl (Nat.le_trans h.upd.size h1)
    · exact (h.old b h1).symm⟩
theorem Bs.marks {M M1 : Nat → Prop} {w0 w1 w : World} {ds : List Nat} {F : List Chunk} (h : Bs M w0 M1 w1 ds) (hm : Mem M1 w1 w F) :
    ∀ D ∈ ds, w0.heap.size ≤ D ∧ D < w.heap.size ∧ w.heap[D]? = some (.deferred (some [])) := fun D hD => by
  obtain ⟨h1, h2, h3, h4⟩ := h.mark D hD
  exact ⟨h1, Nat.lt_of_lt_of_le h2 hm.upd.size, (hm.upd.block D h2 h3).trans h4⟩

def Fin' (N : NR) (M : Nat → Prop) (w0 : World) (Q : Exit → Fr → List Chunk → Prop) (e : Exit) (a : Act) (w : World) : Prop :=
  ∃ ds M1 w1, Bs M w0 M1 w1 ds ∧ ∃ L F, Holds ⟨N.n, ds⟩ a L ∧ Mem M1 w1 w F ∧ Q e L F

section
variable (P : Program) (N : NR) (M : Nat → Prop) (w0 : World)

def Tr (c : Code) (L : Fr) (F : List Chunk) (Q : Exit → Fr → List Chunk → Prop) : Prop :=
  ∀ ds M1 w1, Bs M w0 M1 w1 ds → ∀ a w, Holds ⟨N.n, ds⟩ a L → Mem M1 w1 w F → c.wpIn (WR N.rd) 2 P (Fin' N M w0 Q) a w

def thenQ (next : Fr → List Chunk → Prop) (Q : Exit → Fr → List Chunk → Prop) : Exit → Fr → List Chunk → Prop
  | .normal => next
  | e => Q e
def blockQ (id : Nat) (Q : Exit → Fr → List Chunk → Prop) : Exit → Fr → List Chunk → Prop
  | .exit id' => match Nat.beq id' id with | true => Q .normal | false => Q (.exit id')
  | e => Q e
end

section
variable {P : Program} {N : NR} {M : Nat → Prop} {w0 : World} {L : Fr} {F : List Chunk} {Q : Exit → Fr → List Chunk → Prop} {c d : Code}

theorem Fin'.mono {Q' : Exit → Fr → List Chunk → Prop} {e : Exit} {a : Act} {w : World} (h : Fin' N M w0 Q e a w) (hq : ∀ e L F, Q e L F → Q' e L F) : Fin' N M w0 Q' e a w := by
  obtain ⟨ds, M1, w1, hb, L, F, h1, h2, h3⟩ := h
  exact ⟨ds, M1, w1, hb, L, F, h1, h2, hq _ _ _ h3⟩
theorem Tr.mono {Q' : Exit → Fr → List Chunk → Prop} (h : Tr P N M w0 c L F Q) (hq : ∀ e L F, Q e L F → Q' e L F) : Tr P N M w0 c L F Q' :=
  fun ds M1 w1 hb a w hl hm => wpIn_mono (h ds M1 w1 hb a w hl hm) fun _ _ _ h => h.mono hq

/-- Forget slots and chunks. -/
theorem tr_keep (L' : Fr) (F' : List Chunk) (hL : FSub L L') (hF : CSub F F') (h : Tr P N M w0 c L' F' Q) : Tr P N M w0 c L F Q :=
  fun ds M1 w1 hb a w hl hm => h ds M1 w1 hb a w (hl.sub hL) (hF.mem hm)
theorem tr_forget (L' : Fr) (hL : FSub L L') (h : Tr P N M w0 c L' F Q) : Tr P N M w0 c L F Q := tr_keep L' F hL (CSub.refl F) h
theorem tr_chunks (F' : List Chunk) (hF : CSub F F') (h : Tr P N M w0 c L F' Q) : Tr P N M w0 c L F Q := fun ds M1 w1 hb a w hl hm => h ds M1 w1 hb a w hl (hF.mem hm)

theorem tr_skip (h : Q .normal L F) : Tr P N M w0 .skip L F Q := fun ds M1 w1 hb _ _ hl hm => wpIn_skip ⟨ds, M1, w1, hb, L, F, hl, hm, h⟩
theorem tr_label {l : Nat} (h : Q .normal L F) : Tr P N M w0 (.label l) L F Q := fun ds M1 w1 hb _ _ hl hm => wpIn_label ⟨ds, M1, w1, hb, L, F, hl, hm, h⟩
theorem tr_exit {id : Nat} (h : Q (.exit id) L F) : Tr P N M w0 (.exit id) L F Q := fun ds M1 w1 hb _ _ hl hm => wpIn_exit ⟨ds, M1, w1, hb, L, F, hl, hm, h⟩
theorem tr_ret (h : Q .ret L F) : Tr P N M w0 .ret L F Q := fun ds M1 w1 hb _ _ hl hm => wpIn_ret ⟨ds, M1, w1, hb, L, F, hl, hm, h⟩

theorem tr_seq (h : Tr P N M w0 c L F (thenQ (fun L' F' => Tr P N M w0 d L' F' Q) Q)) : Tr P N M w0 (.seq c d) L F Q := fun ds M1 w1 hb a w hl hm => by
  refine wpIn_seq (wpIn_mono (h ds M1 w1 hb a w hl hm) fun e a' w' hq => ?_)
  obtain ⟨ds', M2, w2, hb', L', F', h1, h2, h3⟩ := hq
  cases e with
  | normal => exact h3 ds' M2 w2 hb' a' w' h1 h2
  | _ => exact ⟨ds', M2, w2, hb', L', F', h1, h2, h3⟩

theorem tr_cond {x : Operand} {p : Prop} [Decidable p] (hx : ev L x = some (.bool (decide p))) (ht : p → Tr P N M w0 c L F Q) (hf : ¬ p → Tr P N M w0 d L F Q) : Tr P N M w0 (.cond x c d) L F Q := fun ds M1 w1 hb a w hl hm => by
  refine wpIn_cond_split (hl.eval hx) (fun h => ht (of_decide_eq_true h) ds M1 w1 hb a w hl hm) (fun h => hf (of_decide_eq_false h) ds M1 w1 hb a w hl hm)
theorem tr_cond_bool {x : Operand} {b : Bool} (hx : ev L x = some (.bool b)) (ht : b = true → Tr P N M w0 c L F Q) (hf : b = false → Tr P N M w0 d L F Q) : Tr P N M w0 (.cond x c d) L F Q := fun ds M1 w1 hb a w hl hm => by
  refine wpIn_cond_split (hl.eval hx) (fun h => ht h ds M1 w1 hb a w hl hm) (fun h => hf h ds M1 w1 hb a w hl hm)

theorem tr_block {id : Nat} (h : Tr P N M w0 c L F (blockQ id Q)) : Tr P N M w0 (.block id c) L F Q := fun ds M1 w1 hb a w hl hm => by
  refine wpIn_block (wpIn_mono (h ds M1 w1 hb a w hl hm) fun e a' w' hq => ?_)
  obtain ⟨ds', M2, w2, hb', L', F', h1, h2, h3⟩ := hq
  cases e with
  | exit id' =>
    simp only [Exit.inBlock]
    simp only [blockQ] at h3
    by_cases he : id' = id
    · subst he
      have : Nat.beq id' id' = true := by simp
      rw [this] at h3
      simp only [if_true]
      exact ⟨ds', M2, w2, hb', L', F', h1, h2, h3⟩
    · have : Nat.beq id' id = false := Bool.eq_false_iff.2 (fun h => he (Nat.eq_of_beq_eq_true h))
      rw [this] at h3
      simp only [he, if_false]
      exact ⟨ds', M2, w2, hb', L', F', h1, h2, h3⟩
  | _ => exact ⟨ds', M2, w2, hb', L', F', h1, h2, h3⟩

/-- A LOOP: s is what the rounds turn: slots and chunks are told by s at every round's head; m goes down. -/
theorem tr_loop {S : Type} (Lf : S → Fr) (Ff : S → List Chunk) (I : S → Prop) (m : S → Nat) (s0 : S) (hL : FSub L (Lf s0)) (hF : CSub F (Ff s0)) (hI : I s0)
    (round : ∀ s, I s → Tr P N M w0 c (Lf s) (Ff s) (thenQ (fun L' F' => ∃ s', FSub L' (Lf s') ∧ CSub F' (Ff s') ∧ I s' ∧ m s' < m s) Q)) : Tr P N M w0 (.loop c) L F Q := by
  intro ds M1 w1 hb a w hl hm b k cs hro hbf hroom
  have key : ∀ n s, m s = n → I s → ∀ ds M1 w1, Bs M w0 M1 w1 ds → ∀ a w, Holds ⟨N.n, ds⟩ a (Lf s) → Mem M1 w1 w (Ff s) →
      ∃ e a' w', Fin' N M w0 Q e a' w' ∧ ArrivesIn (Machine.fenced P (WR N.rd)) P (lone (b.atR a (.code c :: .inLoop c :: k)) cs w) b k cs e a' w' := by
    intro n
    induction n using Nat.strongRecOn with
    | _ n ih =>
      intro s hn hs ds M1 w1 hb a w hl hm
      obtain ⟨e, a1, v1, ⟨ds', M2, w2, hb', L', F', h1, h2, h3⟩, harr⟩ := round s hs ds M1 w1 hb a w hl hm b (.inLoop c :: k) cs hro hbf hroom
      cases e with
      | normal =>
        obtain ⟨s', hL', hF', hI', hlt⟩ := h3
        obtain ⟨e2, a2, v2, hq2, harr2⟩ := ih (m s') (hn ▸ hlt) s' rfl hI' ds' M2 w2 hb' a1 v1 (h1.sub hL') (hF'.mem h2)
        exact ⟨e2, a2, v2, hq2, .of_steps (StepsIn.trans harr (.one (fenced_calm hbf hroom rfl) stepR_inLoop)) harr2⟩
      | exit id => exact ⟨_, a1, v1, ⟨ds', M2, w2, hb', L', F', h1, h2, h3⟩, .pass (x := .inLoop c) rfl (fun _ _ => .inl (by simp)) harr⟩
      | goto l => exact ⟨_, a1, v1, ⟨ds', M2, w2, hb', L', F', h1, h2, h3⟩, .pass (x := .inLoop c) rfl (fun _ _ => .inl (by simp)) harr⟩
      | ret => exact ⟨_, a1, v1, ⟨ds', M2, w2, hb', L', F', h1, h2, h3⟩, .pass (x := .inLoop c) rfl (fun _ _ => .inl (by simp)) harr⟩
      | panic ch => exact ⟨_, a1, v1, ⟨ds', M2, w2, hb', L', F', h1, h2, h3⟩, .pass (x := .inLoop c) rfl (fun _ _ => .inl (by simp)) harr⟩
      | outgrown => exact ⟨_, a1, v1, ⟨ds', M2, w2, hb', L', F', h1, h2, h3⟩, .pass (x := .inLoop c) rfl (fun _ _ => .inl (by simp)) harr⟩
  obtain ⟨e, a', w', hq, harr⟩ := key _ s0 rfl hI ds M1 w1 hb a w (hl.sub hL) (hF.mem hm)
  exact ⟨e, a', w', hq, .of_steps (.one (fenced_calm hbf hroom rfl) stepR_loop) harr⟩
/-- Loops told by so many things. -/
theorem tr_loop1 {S1 : Type} (Lf : S1 → Fr) (Ff : S1 → List Chunk) (I : S1 → Prop) (m : S1 → Nat) (s10 : S1) (hL : FSub L (Lf s10)) (hF : CSub F (Ff s10)) (hI : I s10)
    (round : ∀ (s1 : S1), I s1 → Tr P N M w0 c (Lf s1) (Ff s1) (thenQ (fun L' F' => ∃ (s1' : S1), FSub L' (Lf s1') ∧ CSub F' (Ff s1') ∧ I s1' ∧ m s1' < m s1) Q)) : Tr P N M w0 (.loop c) L F Q :=
  tr_loop (S := S1) (fun q => Lf q) (fun q => Ff q) (fun q => I q) (fun q => m q) ((s10)) hL hF hI (fun q hq => (round q hq).mono (fun e L' F' h => by
    cases e with
    | normal => obtain ⟨s1', h⟩ := h; exact ⟨(s1'), h⟩
    | _ => exact h))
theorem tr_loop2 {S1 S2 : Type} (Lf : S1 → S2 → Fr) (Ff : S1 → S2 → List Chunk) (I : S1 → S2 → Prop) (m : S1 → S2 → Nat) (s10 : S1) (s20 : S2) (hL : FSub L (Lf s10 s20)) (hF : CSub F (Ff s10 s20)) (hI : I s10 s20)
    (round : ∀ (s1 : S1) (s2 : S2), I s1 s2 → Tr P N M w0 c (Lf s1 s2) (Ff s1 s2) (thenQ (fun L' F' => ∃ (s1' : S1) (s2' : S2), FSub L' (Lf s1' s2') ∧ CSub F' (Ff s1' s2') ∧ I s1' s2' ∧ m s1' s2' < m s1 s2) Q)) : Tr P N M w0 (.loop c) L F Q :=
  tr_loop (S := S1 × S2) (fun q => Lf q.1 q.2) (fun q => Ff q.1 q.2) (fun q => I q.1 q.2) (fun q => m q.1 q.2) ((s10, s20)) hL hF hI (fun q hq => (round q.1 q.2 hq).mono (fun e L' F' h => by
    cases e with
    | normal => obtain ⟨s1', s2', h⟩ := h; exact ⟨(s1', s2'), h⟩
    | _ => exact h))
theorem tr_loop3 {S1 S2 S3 : Type} (Lf : S1 → S2 → S3 → Fr) (Ff : S1 → S2 → S3 → List Chunk) (I : S1 → S2 → S3 → Prop) (m : S1 → S2 → S3 → Nat) (s10 : S1) (s20 : S2) (s30 : S3) (hL : FSub L (Lf s10 s20 s30)) (hF : CSub F (Ff s10 s20 s30)) (hI : I s10 s20 s30)
    (round : ∀ (s1 : S1) (s2 : S2) (s3 : S3), I s1 s2 s3 → Tr P N M w0 c (Lf s1 s2 s3) (Ff s1 s2 s3) (thenQ (fun L' F' => ∃ (s1' : S1) (s2' : S2) (s3' : S3), FSub L' (Lf s1' s2' s3') ∧ CSub F' (Ff s1' s2' s3') ∧ I s1' s2' s3' ∧ m s1' s2' s3' < m s1 s2 s3) Q)) : Tr P N M w0 (.loop c) L F Q :=
  tr_loop (S := S1 × S2 × S3) (fun q => Lf q.1 q.2.1 q.2.2) (fun q => Ff q.1 q.2.1 q.2.2) (fun q => I q.1 q.2.1 q.2.2) (fun q => m q.1 q.2.1 q.2.2) ((s10, s20, s30)) hL hF hI (fun q hq => (round q.1 q.2.1 q.2.2 hq).mono (fun e L' F' h => by
    cases e with
    | normal => obtain ⟨s1', s2', s3', h⟩ := h; exact ⟨(s1', s2', s3'), h⟩
    | _ => exact h))
theorem tr_loop4 {S1 S2 S3 S4 : Type} (Lf : S1 → S2 → S3 → S4 → Fr) (Ff : S1 → S2 → S3 → S4 → List Chunk) (I : S1 → S2 → S3 → S4 → Prop) (m : S1 → S2 → S3 → S4 → Nat) (s10 : S1) (s20 : S2) (s30 : S3) (s40 : S4) (hL : FSub L (Lf s10 s20 s30 s40)) (hF : CSub F (Ff s10 s20 s30 s40)) (hI : I s10 s20 s30 s40)
    (round : ∀ (s1 : S1) (s2 : S2) (s3 : S3) (s4 : S4), I s1 s2 s3 s4 → Tr P N M w0 c (Lf s1 s2 s3 s4) (Ff s1 s2 s3 s4) (thenQ (fun L' F' => ∃ (s1' : S1) (s2' : S2) (s3' : S3) (s4' : S4), FSub L' (Lf s1' s2' s3' s4') ∧ CSub F' (Ff s1' s2' s3' s4') ∧ I s1' s2' s3' s4' ∧ m s1' s2' s3' s4' < m s1 s2 s3 s4) Q)) : Tr P N M w0 (.loop c) L F Q :=
  tr_loop (S := S1 × S2 × S3 × S4) (fun q => Lf q.1 q.2.1 q.2.2.1 q.2.2.2) (fun q => Ff q.1 q.2.1 q.2.2.1 q.2.2.2) (fun q => I q.1 q.2.1 q.2.2.1 q.2.2.2) (fun q => m q.1 q.2.1 q.2.2.1 q.2.2.2) ((s10, s20, s30, s40)) hL hF hI (fun q hq => (round q.1 q.2.1 q.2.2.1 q.2.2.2 hq).mono (fun e L' F' h => by
    cases e with
    | normal => obtain ⟨s1', s2', s3', s4', h⟩ := h; exact ⟨(s1', s2', s3', s4'), h⟩
    | _ => exact h))
theorem tr_loop5 {S1 S2 S3 S4 S5 : Type} (Lf : S1 → S2 → S3 → S4 → S5 → Fr) (Ff : S1 → S2 → S3 → S4 → S5 → List Chunk) (I : S1 → S2 → S3 → S4 → S5 → Prop) (m : S1 → S2 → S3 → S4 → S5 → Nat) (s10 : S1) (s20 : S2) (s30 : S3) (s40 : S4) (s50 : S5) (hL : FSub L (Lf s10 s20 s30 s40 s50)) (hF : CSub F (Ff s10 s20 s30 s40 s50)) (hI : I s10 s20 s30 s40 s50)
    (round : ∀ (s1 : S1) (s2 : S2) (s3 : S3) (s4 : S4) (s5 : S5), I s1 s2 s3 s4 s5 → Tr P N M w0 c (Lf s1 s2 s3 s4 s5) (Ff s1 s2 s3 s4 s5) (thenQ (fun L' F' => ∃ (s1' : S1) (s2' : S2) (s3' : S3) (s4' : S4) (s5' : S5), FSub L' (Lf s1' s2' s3' s4' s5') ∧ CSub F' (Ff s1' s2' s3' s4' s5') ∧ I s1' s2' s3' s4' s5' ∧ m s1' s2' s3' s4' s5' < m s1 s2 s3 s4 s5) Q)) : Tr P N M w0 (.loop c) L F Q :=
  tr_loop (S := S1 × S2 × S3 × S4 × S5) (fun q => Lf q.1 q.2.1 q.2.2.1 q.2.2.2.1 q.2.2.2.2) (fun q => Ff q.1 q.2.1 q.2.2.1 q.2.2.2.1 q.2.2.2.2) (fun q => I q.1 q.2.1 q.2.2.1 q.2.2.2.1 q.2.2.2.2) (fun q => m q.1 q.2.1 q.2.2.1 q.2.2.2.1 q.2.2.2.2) ((s10, s20, s30, s40, s50)) hL hF hI (fun q hq => (round q.1 q.2.1 q.2.2.1 q.2.2.2.1 q.2.2.2.2 hq).mono (fun e L' F' h => by
    cases e with
    | normal => obtain ⟨s1', s2', s3', s4', s5', h⟩ := h; exact ⟨(s1', s2', s3', s4', s5'), h⟩
    | _ => exact h))
theorem tr_loop6 {S1 S2 S3 S4 S5 S6 : Type} (Lf : S1 → S2 → S3 → S4 → S5 → S6 → Fr) (Ff : S1 → S2 → S3 → S4 → S5 → S6 → List Chunk) (I : S1 → S2 → S3 → S4 → S5 → S6 → Prop) (m : S1 → S2 → S3 → S4 → S5 → S6 → Nat) (s10 : S1) (s20 : S2) (s30 : S3) (s40 : S4) (s50 : S5) (s60 : S6) (hL : FSub L (Lf s10 s20 s30 s40 s50 s60)) (hF : CSub F (Ff s10 s20 s30 s40 s50 s60)) (hI : I s10 s20 s30 s40 s50 s60)
    (round : ∀ (s1 : S1) (s2 : S2) (s3 : S3) (s4 : S4) (s5 : S5) (s6 : S6), I s1 s2 s3 s4 s5 s6 → Tr P N M w0 c (Lf s1 s2 s3 s4 s5 s6) (Ff s1 s2 s3 s4 s5 s6) (thenQ (fun L' F' => ∃ (s1' : S1) (s2' : S2) (s3' : S3) (s4' : S4) (s5' : S5) (s6' : S6), FSub L' (Lf s1' s2' s3' s4' s5' s6') ∧ CSub F' (Ff s1' s2' s3' s4' s5' s6') ∧ I s1' s2' s3' s4' s5' s6' ∧ m s1' s2' s3' s4' s5' s6' < m s1 s2 s3 s4 s5 s6) Q)) : Tr P N M w0 (.loop c) L F Q :=
  tr_loop (S := S1 × S2 × S3 × S4 × S5 × S6) (fun q => Lf q.1 q.2.1 q.2.2.1 q.2.2.2.1 q.2.2.2.2.1 q.2.2.2.2.2) (fun q => Ff q.1 q.2.1 q.2.2.1 q.2.2.2.1 q.2.2.2.2.1 q.2.2.2.2.2) (fun q => I q.1 q.2.1 q.2.2.1 q.2.2.2.1 q.2.2.2.2.1 q.2.2.2.2.2) (fun q => m q.1 q.2.1 q.2.2.1 q.2.2.2.1 q.2.2.2.2.1 q.2.2.2.2.2) ((s10, s20, s30, s40, s50, s60)) hL hF hI (fun q hq => (round q.1 q.2.1 q.2.2.1 q.2.2.2.1 q.2.2.2.2.1 q.2.2.2.2.2 hq).mono (fun e L' F' h => by
    cases e with
    | normal => obtain ⟨s1', s2', s3', s4', s5', s6', h⟩ := h; exact ⟨(s1', s2', s3', s4', s5', s6'), h⟩
    | _ => exact h))
theorem tr_loop7 {S1 S2 S3 S4 S5 S6 S7 : Type} (Lf : S1 → S2 → S3 → S4 → S5 → S6 → S7 → Fr) (Ff : S1 → S2 → S3 → S4 → S5 → S6 → S7 → List Chunk) (I : S1 → S2 → S3 → S4 → S5 → S6 → S7 → Prop) (m : S1 → S2 → S3 → S4 → S5 → S6 → S7 → Nat) (s10 : S1) (s20 : S2) (s30 : S3) (s40 : S4) (s50 : S5) (s60 : S6) (s70 : S7) (hL : FSub L (Lf s10 s20 s30 s40 s50 s60 s70)) (hF : CSub F (Ff s10 s20 s30 s40 s50 s60 s70)) (hI : I s10 s20 s30 s40 s50 s60 s70)
    (round : ∀ (s1 : S1) (s2 : S2) (s3 : S3) (s4 : S4) (s5 : S5) (s6 : S6) (s7 : S7), I s1 s2 s3 s4 s5 s6 s7 → Tr P N M w0 c (Lf s1 s2 s3 s4 s5 s6 s7) (Ff s1 s2 s3 s4 s5 s6 s7) (thenQ (fun L' F' => ∃ (s1' : S1) (s2' : S2) (s3' : S3) (s4' : S4) (s5' : S5) (s6' : S6) (s7' : S7), FSub L' (Lf s1' s2' s3' s4' s5' s6' s7') ∧ CSub F' (Ff s1' s2' s3' s4' s5' s6' s7') ∧ I s1' s2' s3' s4' s5' s6' s7' ∧ m s1' s2' s3' s4' s5' s6' s7' < m s1 s2 s3 s4 s5 s6 s7) Q)) : Tr P N M w0 (.loop c) L F Q :=
  tr_loop (S := S1 × S2 × S3 × S4 × S5 × S6 × S7) (fun q => Lf q.1 q.2.1 q.2.2.1 q.2.2.2.1 q.2.2.2.2.1 q.2.2.2.2.2.1 q.2.2.2.2.2.2) (fun q => Ff q.1 q.2.1 q.2.2.1 q.2.2.2.1 q.2.2.2.2.1 q.2.2.2.2.2.1 q.2.2.2.2.2.2) (fun q => I q.1 q.2.1 q.2.2.1 q.2.2.2.1 q.2.2.2.2.1 q.2.2.2.2.2.1 q.2.2.2.2.2.2) (fun q => m q.1 q.2.1 q.2.2.1 q.2.2.2.1 q.2.2.2.2.1 q.2.2.2.2.2.1 q.2.2.2.2.2.2) ((s10, s20, s30, s40, s50, s60, s70)) hL hF hI (fun q hq => (round q.1 q.2.1 q.2.2.1 q.2.2.2.1 q.2.2.2.2.1 q.2.2.2.2.2.1 q.2.2.2.2.2.2 hq).mono (fun e L' F' h => by
    cases e with
    | normal => obtain ⟨s1', s2', s3', s4', s5', s6', s7', h⟩ := h; exact ⟨(s1', s2', s3', s4', s5', s6', s7'), h⟩
    | _ => exact h))
theorem tr_loop8 {S1 S2 S3 S4 S5 S6 S7 S8 : Type} (Lf : S1 → S2 → S3 → S4 → S5 → S6 → S7 → S8 → Fr) (Ff : S1 → S2 → S3 → S4 → S5 → S6 → S7 → S8 → List Chunk) (I : S1 → S2 → S3 → S4 → S5 → S6 → S7 → S8 → Prop) (m : S1 → S2 → S3 → S4 → S5 → S6 → S7 → S8 → Nat) (s10 : S1) (s20 : S2) (s30 : S3) (s40 : S4) (s50 : S5) (s60 : S6) (s70 : S7) (s80 : S8) (hL : FSub L (Lf s10 s20 s30 s40 s50 s60 s70 s80)) (hF : CSub F (Ff s10 s20 s30 s40 s50 s60 s70 s80)) (hI : I s10 s20 s30 s40 s50 s60 s70 s80)
    (round : ∀ (s1 : S1) (s2 : S2) (s3 : S3) (s4 : S4) (s5 : S5) (s6 : S6) (s7 : S7) (s8 : S8), I s1 s2 s3 s4 s5 s6 s7 s8 → Tr P N M w0 c (Lf s1 s2 s3 s4 s5 s6 s7 s8) (Ff s1 s2 s3 s4 s5 s6 s7 s8) (thenQ (fun L' F' => ∃ (s1' : S1) (s2' : S2) (s3' : S3) (s4' : S4) (s5' : S5) (s6' : S6) (s7' : S7) (s8' : S8), FSub L' (Lf s1' s2' s3' s4' s5' s6' s7' s8') ∧ CSub F' (Ff s1' s2' s3' s4' s5' s6' s7' s8') ∧ I s1' s2' s3' s4' s5' s6' s7' s8' ∧ m s1' s2' s3' s4' s5' s6' s7' s8' < m s1 s2 s3 s4 s5 s6 s7 s8) Q)) : Tr P N M w0 (.loop c) L F Q :=
  tr_loop (S := S1 × S2 × S3 × S4 × S5 × S6 × S7 × S8) (fun q => Lf q.1 q.2.1 q.2.2.1 q.2.2.2.1 q.2.2.2.2.1 q.2.2.2.2.2.1 q.2.2.2.2.2.2.1 q.2.2.2.2.2.2.2) (fun q => Ff q.1 q.2.1 q.2.2.1 q.2.2.2.1 q.2.2.2.2.1 q.2.2.2.2.2.1 q.2.2.2.2.2.2.1 q.2.2.2.2.2.2.2) (fun q => I q.1 q.2.1 q.2.2.1 q.2.2.2.1 q.2.2.2.2.1 q.2.2.2.2.2.1 q.2.2.2.2.2.2.1 q.2.2.2.2.2.2.2) (fun q => m q.1 q.2.1 q.2.2.1 q.2.2.2.1 q.2.2.2.2.1 q.2.2.2.2.2.1 q.2.2.2.2.2.2.1 q.2.2.2.2.2.2.2) ((s10, s20, s30, s40, s50, s60, s70, s80)) hL hF hI (fun q hq => (round q.1 q.2.1 q.2.2.1 q.2.2.2.1 q.2.2.2.2.1 q.2.2.2.2.2.1 q.2.2.2.2.2.2.1 q.2.2.2.2.2.2.2 hq).mono (fun e L' F' h => by
    cases e with
    | normal => obtain ⟨s1', s2', s3', s4', s5', s6', s7', s8', h⟩ := h; exact ⟨(s1', s2', s3', s4', s5', s6', s7', s8'), h⟩
    | _ => exact h))
theorem tr_loop9 {S1 S2 S3 S4 S5 S6 S7 S8 S9 : Type} (Lf : S1 → S2 → S3 → S4 → S5 → S6 → S7 → S8 → S9 → Fr) (Ff : S1 → S2 → S3 → S4 → S5 → S6 → S7 → S8 → S9 → List Chunk) (I : S1 → S2 → S3 → S4 → S5 → S6 → S7 → S8 → S9 → Prop) (m : S1 → S2 → S3 → S4 → S5 → S6 → S7 → S8 → S9 → Nat) (s10 : S1) (s20 : S2) (s30 : S3) (s40 : S4) (s50 : S5) (s60 : S6) (s70 : S7) (s80 : S8) (s90 : S9) (hL : FSub L (Lf s10 s20 s30 s40 s50 s60 s70 s80 s90)) (hF : CSub F (Ff s10 s20 s30 s40 s50 s60 s70 s80 s90)) (hI : I s10 s20 s30 s40 s50 s60 s70 s80 s90)
    (round : ∀ (s1 : S1) (s2 : S2) (s3 : S3) (s4 : S4) (s5 : S5) (s6 : S6) (s7 : S7) (s8 : S8) (s9 : S9), I s1 s2 s3 s4 s5 s6 s7 s8 s9 → Tr P N M w0 c (Lf s1 s2 s3 s4 s5 s6 s7 s8 s9) (Ff s1 s2 s3 s4 s5 s6 s7 s8 s9) (thenQ (fun L' F' => ∃ (s1' : S1) (s2' : S2) (s3' : S3) (s4' : S4) (s5' : S5) (s6' : S6) (s7' : S7) (s8' : S8) (s9' : S9), FSub L' (Lf s1' s2' s3' s4' s5' s6' s7' s8' s9') ∧ CSub F' (Ff s1' s2' s3' s4' s5' s6' s7' s8' s9') ∧ I s1' s2' s3' s4' s5' s6' s7' s8' s9' ∧ m s1' s2' s3' s4' s5' s6' s7' s8' s9' < m s1 s2 s3 s4 s5 s6 s7 s8 s9) Q)) : Tr P N M w0 (.loop c) L F Q :=
  tr_loop (S := S1 × S2 × S3 × S4 × S5 × S6 × S7 × S8 × S9) (fun q => Lf q.1 q.2.1 q.2.2.1 q.2.2.2.1 q.2.2.2.2.1 q.2.2.2.2.2.1 q.2.2.2.2.2.2.1 q.2.2.2.2.2.2.2.1 q.2.2.2.2.2.2.2.2) (fun q => Ff q.1 q.2.1 q.2.2.1 q.2.2.2.1 q.2.2.2.2.1 q.2.2.2.2.2.1 q.2.2.2.2.2.2.1 q.2.2.2.2.2.2.2.1 q.2.2.2.2.2.2.2.2) (fun q => I q.1 q.2.1 q.2.2.1 q.2.2.2.1 q.2.2.2.2.1 q.2.2.2.2.2.1 q.2.2.2.2.2.2.1 q.2.2.2.2.2.2.2.1 q.2.2.2.2.2.2.2.2) (fun q => m q.1 q.2.1 q.2.2.1 q.2.2.2.1 q.2.2.2.2.1 q.2.2.2.2.2.1 q.2.2.2.2.2.2.1 q.2.2.2.2.2.2.2.1 q.2.2.2.2.2.2.2.2) ((s10, s20, s30, s40, s50, s60, s70, s80, s90)) hL hF hI (fun q hq => (round q.1 q.2.1 q.2.2.1 q.2.2.2.1 q.2.2.2.2.1 q.2.2.2.2.2.1 q.2.2.2.2.2.2.1 q.2.2.2.2.2.2.2.1 q.2.2.2.2.2.2.2.2 hq).mono (fun e L' F' h => by
    cases e with
    | normal => obtain ⟨s1', s2', s3', s4', s5', s6', s7', s8', s9', h⟩ := h; exact ⟨(s1', s2', s3', s4', s5', s6', s7', s8', s9'), h⟩
    | _ => exact h))
theorem tr_loop10 {S1 S2 S3 S4 S5 S6 S7 S8 S9 S10 : Type} (Lf : S1 → S2 → S3 → S4 → S5 → S6 → S7 → S8 → S9 → S10 → Fr) (Ff : S1 → S2 → S3 → S4 → S5 → S6 → S7 → S8 → S9 → S10 → List Chunk) (I : S1 → S2 → S3 → S4 → S5 → S6 → S7 → S8 → S9 → S10 → Prop) (m : S1 → S2 → S3 → S4 → S5 → S6 → S7 → S8 → S9 → S10 → Nat) (s10 : S1) (s20 : S2) (s30 : S3) (s40 : S4) (s50 : S5) (s60 : S6) (s70 : S7) (s80 : S8) (s90 : S9) (s100 : S10) (hL : FSub L (Lf s10 s20 s30 s40 s50 s60 s70 s80 s90 s100)) (hF : CSub F (Ff s10 s20 s30 s40 s50 s60 s70 s80 s90 s100)) (hI : I s10 s20 s30 s40 s50 s60 s70 s80 s90 s100)
    (round : ∀ (s1 : S1) (s2 : S2) (s3 : S3) (s4 : S4) (s5 : S5) (s6 : S6) (s7 : S7) (s8 : S8) (s9 : S9) (s10 : S10), I s1 s2 s3 s4 s5 s6 s7 s8 s9 s10 → Tr P N M w0 c (Lf s1 s2 s3 s4 s5 s6 s7 s8 s9 s10) (Ff s1 s2 s3 s4 s5 s6 s7 s8 s9 s10) (thenQ (fun L' F' => ∃ (s1' : S1) (s2' : S2) (s3' : S3) (s4' : S4) (s5' : S5) (s6' : S6) (s7' : S7) (s8' : S8) (s9' : S9) (s10' : S10), FSub L' (Lf s1' s2' s3' s4' s5' s6' s7' s8' s9' s10') ∧ CSub F' (Ff s1' s2' s3' s4' s5' s6' s7' s8' s9' s10') ∧ I s1' s2' s3' s4' s5' s6' s7' s8' s9' s10' ∧ m s1' s2' s3' s4' s5' s6' s7' s8' s9' s10' < m s1 s2 s3 s4 s5 s6 s7 s8 s9 s10) Q)) : Tr P N M w0 (.loop c) L F Q :=
  tr_loop (S := S1 × S2 × S3 × S4 × S5 × S6 × S7 × S8 × S9 × S10) (fun q => Lf q.1 q.2.1 q.2.2.1 q.2.2.2.1 q.2.2.2.2.1 q.2.2.2.2.2.1 q.2.2.2.2.2.2.1 q.2.2.2.2.2.2.2.1 q.2.2.2.2.2.2.2.2.1 q.2.2.2.2.2.2.2.2.2) (fun q => Ff q.1 q.2.1 q.2.2.1 q.2.2.2.1 q.2.2.2.2.1 q.2.2.2.2.2.1 q.2.2.2.2.2.2.1 q.2.2.2.2.2.2.2.1 q.2.2.2.2.2.2.2.2.1 q.2.2.2.2.2.2.2.2.2) (fun q => I q.1 q.2.1 q.2.2.1 q.2.2.2.1 q.2.2.2.2.1 q.2.2.2.2.2.1 q.2.2.2.2.2.2.1 q.2.2.2.2.2.2.2.1 q.2.2.2.2.2.2.2.2.1 q.2.2.2.2.2.2.2.2.2) (fun q => m q.1 q.2.1 q.2.2.1 q.2.2.2.1 q.2.2.2.2.1 q.2.2.2.2.2.1 q.2.2.2.2.2.2.1 q.2.2.2.2.2.2.2.1 q.2.2.2.2.2.2.2.2.1 q.2.2.2.2.2.2.2.2.2) ((s10, s20, s30, s40, s50, s60, s70, s80, s90, s100)) hL hF hI (fun q hq => (round q.1 q.2.1 q.2.2.1 q.2.2.2.1 q.2.2.2.2.1 q.2.2.2.2.2.1 q.2.2.2.2.2.2.1 q.2.2.2.2.2.2.2.1 q.2.2.2.2.2.2.2.2.1 q.2.2.2.2.2.2.2.2.2 hq).mono (fun e L' F' h => by
    cases e with
    | normal => obtain ⟨s1', s2', s3', s4', s5', s6', s7', s8', s9', s10', h⟩ := h; exact ⟨(s1', s2', s3', s4', s5', s6', s7', s8', s9', s10'), h⟩
    | _ => exact h))
end
end Go.Proofs.Ytjmojhflnjbgaaa

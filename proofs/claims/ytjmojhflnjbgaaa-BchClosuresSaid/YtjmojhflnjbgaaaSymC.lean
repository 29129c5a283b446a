/-
  CONTRACTS, AND THE RULES FOR OPERATIONS. One sentence: what each operation of a walk does to the two lists, and what a call comes to.
  Conditions: none. Plain theorems on the model's own words; no program is named here.
-/
import Derived.Test.YtjmojhflnjbgaaaSymB
import Derived.IntWalk
import Derived.Laws.MakeOwn
namespace Go.Proofs.Ytjmojhflnjbgaaa
open Go.RowKit

def nth : List Oper → Nat → Option Oper
  | [], _ => none
  | o :: _, 0 => some o
  | _ :: r, n + 1 => nth r n
theorem nth_eq : ∀ (l : List Oper) (i : Nat), nth l i = l[i]?
  | [], _ => rfl
  | _ :: _, 0 => rfl
  | _ :: r, n + 1 => by simpa [nth] using nth_eq r n

section
variable (P : Program) (N : NB) (M : Nat → Prop) (w0 : World)

/-- One operation. -/
def StepO (x : Bool) (ops : List Oper) (o : Oper) (L : Fr) (F : List Chunk) (K : Fr → List Chunk → Prop) : Prop :=
  ∀ a w, Holds N a L → Mem M w0 w F →
    if isEff o.op = true then
      (if Region.wanted o (yielded ops.toArray a.tmps) then o.wp P a w (fun a' w' => (x = true → Ext w w') ∧ ∃ L' F', Holds N a' L' ∧ Mem M w0 w' F' ∧ K L' F') noQ
       else ∃ L' F', Holds N (a.put o.dst undef) L' ∧ Mem M w0 w F' ∧ K L' F')
    else ∃ v, YieldsX P ops.toArray w o v a ∧ ∃ L' F', Holds N (a.put o.dst v) L' ∧ Mem M w0 w F' ∧ K L' F'

/-- In the order of the text. -/
def LstO (x : Bool) (ops : List Oper) (K : Fr → List Chunk → Prop) : List Oper → Fr → List Chunk → Prop
  | [], L, F => K L F
  | o :: rest, L, F => StepO P N M w0 x ops o L F (LstO x ops K rest)
/-- By a list of numbers. -/
def LstI (x : Bool) (ops : List Oper) (K : Fr → List Chunk → Prop) : List Nat → Fr → List Chunk → Prop
  | [], L, F => K L F
  | i :: rest, L, F => match nth ops i with
    | some o => StepO P N M w0 x ops o L F (LstI x ops K rest)
    | none => False

def Stl (o : Oper) (L : Fr) (F : List Chunk) (v : Value) : Prop := ∀ a w, Holds N a L → Mem M w0 w F → (execOp a.eval o).run P w = .ok (.value v) w
def Eff (x : Bool) (o : Oper) (L : Fr) (F : List Chunk) (K : Fr → List Chunk → Prop) : Prop :=
  ∀ a w, Holds N a L → Mem M w0 w F → o.wp P a w (fun a' w' => (x = true → Ext w w') ∧ ∃ L' F', Holds N a' L' ∧ Mem M w0 w' F' ∧ K L' F') noQ
end

/-- What a slot holds behind a guard. -/
def gif (b : Bool) (v : Value) : Value := if b then v else undef

section
variable {P : Program} {N : NB} {M : Nat → Prop} {w0 : World} {L : Fr} {F : List Chunk} {K : Fr → List Chunk → Prop} {x : Bool} {ops : List Oper} {o : Oper} {v : Value}

theorem wanted_none (hg : o.guard = none) (y : Nat → Option Bool) : Region.wanted o y = true := by simp [Region.wanted, hg]

theorem st (he : isEff o.op = false) (hg : o.guard = none) {d : Nat} (hdd : o.dst = some d) (hd : Nat.ble (d + 1) N.n = true) (h : Stl P N M w0 o L F v) (k : K (addL d v L) F) : StepO P N M w0 x ops o L F K := fun a w hl hm => by
  simp only [he, Bool.false_eq_true, if_false]
  exact ⟨v, fun w' hx => .inl ⟨wanted_none hg _, .inl (h a w' hl (hm.ext hx))⟩, _, F, hl.add hdd hd v, hm, k⟩

theorem ef (he : isEff o.op = true) (hg : o.guard = none) (h : Eff P N M w0 x o L F K) : StepO P N M w0 x ops o L F K := fun a w hl hm => by
  simp only [he, wanted_none hg, if_true]
  exact h a w hl hm

/-- Which slot a guard asks. -/
def guardSlot (ops : List Oper) (o : Oper) : Option (Nat × Bool) :=
  match o.guard with
  | none => none
  | some (j, want) => match nth ops j with
    | some g => g.dst.map (·, want)
    | none => none

theorem wanted_slot {t : Nat} {want b : Bool} (hg : guardSlot ops o = some (t, want)) (hb : Fr.get L t = some (.bool b)) {a : Act} (hl : Holds N a L) : Region.wanted o (yielded ops.toArray a.tmps) = (b == want) := by
  unfold guardSlot at hg
  split at hg
  · cases hg
  · rename_i j want' hgu
    split at hg
    · rename_i g hj
      rw [nth_eq] at hj
      cases hd : g.dst with
      | none => simp [hd] at hg
      | some d =>
        simp only [hd, Option.map_some, Option.some.injEq, Prod.mk.injEq] at hg
        obtain ⟨rfl, rfl⟩ := hg
        obtain ⟨h1, h2⟩ := hl.get _ _ hb
        have h3 : a.tmps[d]? = some (.bool b) := by
          have hlt : d < a.tmps.size := by rw [hl.size]; exact h2
          rw [Array.getElem?_eq_getElem hlt]
          simpa [hlt] using h1
        simp [Region.wanted, hgu, yielded, hj, hd, h3]
    · cases hg

theorem stg {t : Nat} {want b : Bool} (he : isEff o.op = false) (hg : guardSlot ops o = some (t, want)) (hb : Fr.get L t = some (.bool b)) {d : Nat} (hdd : o.dst = some d) (hd : Nat.ble (d + 1) N.n = true)
    (h : (b == want) = true → Stl P N M w0 o L F v) (k : K (addL d (gif (b == want) v) L) F) : StepO P N M w0 x ops o L F K := fun a w hl hm => by
  simp only [he, Bool.false_eq_true, if_false]
  refine ⟨gif (b == want) v, fun w' hx => ?_, _, F, hl.add hdd hd _, hm, k⟩
  cases hbw : (b == want) with
  | true => exact .inl ⟨(wanted_slot hg hb hl).trans hbw, .inl (by rw [gif, if_pos rfl]; exact h hbw a w' hl (hm.ext hx))⟩
  | false => exact .inr ⟨(wanted_slot hg hb hl).trans hbw, by simp [gif]⟩

/-- An effect behind a guard: it leaves v and no chunk. -/
theorem efg {t : Nat} {want b : Bool} (he : isEff o.op = true) (hg : guardSlot ops o = some (t, want)) (hb : Fr.get L t = some (.bool b)) {d : Nat} (hdd : o.dst = some d) (hd : Nat.ble (d + 1) N.n = true)
    (h : (b == want) = true → Eff P N M w0 x o L F (fun L' F' => L' = addL d v L ∧ F' = F)) (k : K (addL d (gif (b == want) v) L) F) : StepO P N M w0 x ops o L F K := fun a w hl hm => by
  simp only [he, if_true]
  rw [wanted_slot hg hb hl]
  cases hbw : (b == want) with
  | true =>
    simp only [if_true]
    refine Oper.wp_mono (fun a' w' hq => ?_) (h hbw a w hl hm)
    obtain ⟨h1, L', F', h2, h3, rfl, rfl⟩ := hq
    rw [hbw] at k
    exact ⟨h1, _, _, h2, h3, by simpa [gif] using k⟩
  | false =>
    simp only [Bool.false_eq_true, if_false]
    rw [hbw] at k
    exact ⟨_, F, by simpa [gif] using hl.add hdd hd undef, hm, by simpa [gif] using k⟩

/-- A guard within a guard: the slot that is asked holds something under g alone. -/
theorem wanted_slot2 {t : Nat} {want b g : Bool} (hg : guardSlot ops o = some (t, want)) (hb : Fr.get L t = some (gif g (.bool b))) {a : Act} (hl : Holds N a L) : Region.wanted o (yielded ops.toArray a.tmps) = (g && (b == want)) := by
  cases g with
  | true => simpa using wanted_slot hg (by simpa [gif] using hb) hl
  | false =>
    have hu : Fr.get L t = some undef := by simpa [gif] using hb
    unfold guardSlot at hg
    split at hg
    · cases hg
    · rename_i j want' hgu
      split at hg
      · rename_i gg hj
        rw [nth_eq] at hj
        cases hd : gg.dst with
        | none => simp [hd] at hg
        | some d =>
          simp only [hd, Option.map_some, Option.some.injEq, Prod.mk.injEq] at hg
          obtain ⟨rfl, rfl⟩ := hg
          obtain ⟨h1, h2⟩ := hl.get _ _ hu
          have hlt : d < a.tmps.size := by rw [hl.size]; exact h2
          have h3 : a.tmps[d]? = some undef := by
            rw [Array.getElem?_eq_getElem hlt]
            simpa [hlt] using h1
          simp [Region.wanted, hgu, yielded, hj, hd, h3, undef]
      · cases hg

theorem stg2 {t : Nat} {want b g : Bool} (he : isEff o.op = false) (hg : guardSlot ops o = some (t, want)) (hb : Fr.get L t = some (gif g (.bool b))) {d : Nat} (hdd : o.dst = some d) (hd : Nat.ble (d + 1) N.n = true)
    (h : (g && (b == want)) = true → Stl P N M w0 o L F v) (k : K (addL d (gif (g && (b == want)) v) L) F) : StepO P N M w0 x ops o L F K := fun a w hl hm => by
  simp only [he, Bool.false_eq_true, if_false]
  refine ⟨gif (g && (b == want)) v, fun w' hx => ?_, _, F, hl.add hdd hd _, hm, k⟩
  cases hbw : (g && (b == want)) with
  | true => exact .inl ⟨(wanted_slot2 hg hb hl).trans hbw, .inl (by rw [gif, if_pos rfl]; exact h hbw a w' hl (hm.ext hx))⟩
  | false => exact .inr ⟨(wanted_slot2 hg hb hl).trans hbw, by simp [gif]⟩
theorem efg2 {t : Nat} {want b g : Bool} (he : isEff o.op = true) (hg : guardSlot ops o = some (t, want)) (hb : Fr.get L t = some (gif g (.bool b))) {d : Nat} (hdd : o.dst = some d) (hd : Nat.ble (d + 1) N.n = true)
    (h : (g && (b == want)) = true → Eff P N M w0 x o L F (fun L' F' => L' = addL d v L ∧ F' = F)) (k : K (addL d (gif (g && (b == want)) v) L) F) : StepO P N M w0 x ops o L F K := fun a w hl hm => by
  simp only [he, if_true]
  rw [wanted_slot2 hg hb hl]
  cases hbw : (g && (b == want)) with
  | true =>
    simp only [if_true]
    refine Oper.wp_mono (fun a' w' hq => ?_) (h hbw a w hl hm)
    obtain ⟨h1, L', F', h2, h3, rfl, rfl⟩ := hq
    rw [hbw] at k
    exact ⟨h1, _, _, h2, h3, by simpa [gif] using k⟩
  | false =>
    simp only [Bool.false_eq_true, if_false]
    rw [hbw] at k
    exact ⟨_, F, by simpa [gif] using hl.add hdd hd undef, hm, by simpa [gif] using k⟩

/-! ### Regions -/

theorem StepO.head {i : Nat} {a : Act} {w : World} (h : StepO P N M w0 true ops o L F K) (ho : ops[i]? = some o) (hl : Holds N a L) (hm : Mem M w0 w F)
    {T : Act → World → Prop} (hT : ∀ a w L F, Holds N a L → Mem M w0 w F → K L F → T a w) : opH P ops.toArray i T a w := by
  have h1 := h a w hl hm
  unfold Go.Proofs.Ytjmojhflnjbgaaa.opH
  simp only [List.getElem?_toArray, ho]
  split
  · rename_i he
    simp only [he, if_true] at h1
    split
    · rename_i hw
      simp only [hw, if_true] at h1
      exact Oper.wp_mono (fun a' w' hq => ⟨hq.1 trivial, by obtain ⟨_, L', F', h2, h3, h4⟩ := hq; exact hT _ _ _ _ h2 h3 h4⟩) h1
    · rename_i hw
      simp only [hw] at h1
      obtain ⟨L', F', h2, h3, h4⟩ := h1
      exact hT _ _ _ _ h2 h3 h4
  · rename_i he
    simp only [he] at h1
    obtain ⟨v, hy, L', F', h2, h3, h4⟩ := h1
    exact ⟨v, hy, hT _ _ _ _ h2 h3 h4⟩

theorem StepO.plain {i : Nat} {a : Act} {w : World} (h : StepO P N M w0 x ops o L F K) (ho : ops[i]? = some o) (hl : Holds N a L) (hm : Mem M w0 w F)
    {T : Act → World → Prop} {Q : Exit → Act → World → Prop} (hT : ∀ a w L F, Holds N a L → Mem M w0 w F → K L F → T a w) : wpOp P ops.toArray Q i T a w := by
  have h1 := h a w hl hm
  by_cases he : isEff o.op = true
  · unfold Go.wpOp
    simp only [List.getElem?_toArray, ho]
    simp only [he, if_true] at h1
    split
    · rename_i hw
      simp only [hw, if_true] at h1
      exact .inl (Oper.wp_noQ (Oper.wp_mono (fun a' w' hq => by obtain ⟨_, L', F', h2, h3, h4⟩ := hq; exact hT _ _ _ _ h2 h3 h4) h1))
    · rename_i hw
      simp only [hw] at h1
      obtain ⟨L', F', h2, h3, h4⟩ := h1
      exact hT _ _ _ _ h2 h3 h4
  · simp only [he] at h1
    obtain ⟨v, hy, L', F', h2, h3, h4⟩ := h1
    have h5 : opH P ops.toArray i T a w := by
      unfold Go.Proofs.Ytjmojhflnjbgaaa.opH
      simp only [List.getElem?_toArray, ho, he]
      exact ⟨v, hy, hT _ _ _ _ h2 h3 h4⟩
    exact wpOp_of_opH (fun _ _ h => h) h5

theorem LstI.head {T : Act → World → Prop} (hT : ∀ a w L F, Holds N a L → Mem M w0 w F → K L F → T a w) : ∀ (l : List Nat) (L : Fr) (F : List Chunk) (a : Act) (w : World),
    LstI P N M w0 true ops K l L F → Holds N a L → Mem M w0 w F → wpHead P ops.toArray T l a w
  | [], _, _, _, _, h, hl, hm => hT _ _ _ _ hl hm h
  | i :: rest, L, F, a, w, h, hl, hm => by
    simp only [LstI] at h
    cases ho : nth ops i with
    | none => simp [ho] at h
    | some o =>
      simp only [ho] at h
      exact h.head (by rw [← nth_eq]; exact ho) hl hm (fun a w L F hl hm hk => LstI.head hT rest L F a w hk hl hm)

theorem LstI.tail {Q : Exit → Act → World → Prop} (hT : ∀ a w L F, Holds N a L → Mem M w0 w F → K L F → Q .normal a w) : ∀ (l : List Nat) (L : Fr) (F : List Chunk) (a : Act) (w : World),
    LstI P N M w0 false ops K l L F → Holds N a L → Mem M w0 w F → wpTail P ops.toArray Q l a w
  | [], _, _, _, _, h, hl, hm => hT _ _ _ _ hl hm h
  | i :: rest, L, F, a, w, h, hl, hm => by
    simp only [LstI] at h
    cases ho : nth ops i with
    | none => simp [ho] at h
    | some o =>
      simp only [ho] at h
      exact h.plain (by rw [← nth_eq]; exact ho) hl hm (fun a w L F hl hm hk => LstI.tail hT rest L F a w hk hl hm)

theorem LstO.all {Q : Exit → Act → World → Prop} (hT : ∀ a w L F, Holds N a L → Mem M w0 w F → K L F → Q .normal a w) : ∀ (l : List Oper) (k : Nat) (L : Fr) (F : List Chunk) (a : Act) (w : World),
    (∀ j, l[j]? = ops[k + j]?) → LstO P N M w0 false ops K l L F → Holds N a L → Mem M w0 w F → wpOps P ops.toArray Q (List.range' k l.length) a w
  | [], _, _, _, _, _, _, h, hl, hm => by simpa [wpOps] using hT _ _ _ _ hl hm h
  | o :: rest, k, L, F, a, w, hj, h, hl, hm => by
    have ho : ops[k]? = some o := by simpa using (hj 0).symm
    simp only [List.length_cons, List.range'_succ]
    rw [wpOps_cons]
    exact StepO.plain h ho hl hm (fun a w L F hl hm hk => LstO.all hT rest (k + 1) L F a w (fun j => by have := hj (j + 1); simpa [Nat.add_assoc, Nat.add_comm 1 j] using this) hk hl hm)

theorem drew_ext (w : World) : Ext w { w with drawn := w.drawn + 1 } := (Below.refl _ _).drew
end

section
variable {P : Program} {N : NR} {M : Nat → Prop} {w0 : World} {L : Fr} {F : List Chunk} {ops : List Oper}
theorem tr_region {id : Nat} {Q : Exit → Fr → List Chunk → Prop} (h : ∀ ds M1 w1, LstO P ⟨N.n, ds⟩ M1 w1 false ops (Q .normal) ops L F) (hd : noDefer ops = true := by rfl) : Tr P N M w0 (.region id ops.toArray false) L F Q := fun ds M1 w1 hb a w hl hm => by
  refine wpIn_region_seq (by simpa using hd) ?_
  have := LstO.all (Q := nrm (Fin' N M w0 Q)) (fun a w L F h1 h2 h3 => ⟨rfl, ds, M1, w1, hb, L, F, h1, h2, h3⟩) ops 0 L F a w (fun j => by simp) (h ds M1 w1) hl hm
  rw [List.range_eq_range']
  simpa using this

theorem tr_draw (hds tls : List Nat) {id : Nat} {Q : Exit → Fr → List Chunk → Prop} (hm : P.follows .mixedOrders = true) (hB : regionOk ops.toArray hds tls = true)
    (h : ∀ ds M1 w1, LstI P ⟨N.n, ds⟩ M1 w1 true ops (LstI P ⟨N.n, ds⟩ M1 w1 false ops (Q .normal) tls) hds L F) (hd : noDefer ops = true := by rfl) : Tr P N M w0 (.region id ops.toArray true) L F Q := fun ds M1 w1 hb a w hl hmem => by
  refine wpIn_region_phase hds tls hm hB (by simpa using hd) ?_
  exact LstI.head (fun a w L F hl hm hk => LstI.tail (Q := nrm (Fin' N M w0 Q)) (fun a w L F h1 h2 h3 => ⟨rfl, ds, M1, w1, hb, L, F, h1, h2, h3⟩) tls L F a w hk hl hm) hds L F a _ (h ds M1 w1) hl (hmem.ext (drew_ext w))
end
end Go.Proofs.Ytjmojhflnjbgaaa

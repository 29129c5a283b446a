/-
  NEW MEMORY, STORES, CALLS. One sentence: the rules for operations that turn the world, what a contract is, and how a function is entered and left.
  Conditions: none. Plain theorems on the model's own words; no program is named here.
-/
import Derived.Test.YtjmojhflnjbgaaaSymE
import Derived.Maps.AppendAt
import Derived.Laws.OwnMore
import Derived.Laws.Rows
namespace Go.Proofs.Ytjmojhflnjbgaaa
open Go.RowKit

/-! ### Contracts -/

/-- A call of f enters its body. -/
def Enters (P : Program) (f : FuncId) : Prop := ∀ (args : Array Value) (w : World), (callFunc f args).run P w = .ok (.enter f args) w
theorem enters_of {P : Program} {f : FuncId} {fn : Func} (h : P.funcs[f]? = some fn) (hn : (fn.name == "runtime.NumGoroutine") = false) (hb : fn.body.isNone = false) : Enters P f := fun args w => by
  simp only [callFunc, Sem.run_bind, run_program, Result.andThen_ok, h]
  simp [hn, hb]

/-- What f does, called with these arguments where the chunks of G can be read: it changes nothing that was there, hands back a value, and leaves new chunks, as R says. -/
structure Pure (P : Program) (f : FuncId) (args : Array Value) (G : List Chunk) (R : Value → List Chunk → Prop) : Prop where
  ent : Enters P f
  run : ∀ w, (∀ c ∈ G, c.sat w) → Calls P f args w (fun e w' => ∃ v Fo, e = .returned v ∧ Ext w w' ∧ R v Fo ∧ (∀ c ∈ Fo, c.sat w' ∧ ∀ b, c.foot b → w.heap.size ≤ b) ∧ Fo.Pairwise Chunk.sep)

theorem Pure.mono {P : Program} {f : FuncId} {args : Array Value} {G : List Chunk} {R R' : Value → List Chunk → Prop} (h : Pure P f args G R) (hr : ∀ v Fo, R v Fo → R' v Fo) : Pure P f args G R' :=
  ⟨h.ent, fun w hg => (h.run w hg).mono fun _ _ ⟨v, Fo, h1, h2, h3, h4, h5⟩ => ⟨v, Fo, h1, h2, hr _ _ h3, h4, h5⟩⟩

/-- One known value, no chunk. -/
def isV (v : Value) : Value → List Chunk → Prop := fun u Fo => u = v ∧ Fo = []

def NoEx : List Chunk → Prop
  | [] => True
  | c :: r => ¬ c.excl ∧ NoEx r
theorem NoEx.mem : ∀ {G : List Chunk}, NoEx G → ∀ c ∈ G, ¬ c.excl
  | _ :: _, h, c, hc => by
    rcases List.mem_cons.1 hc with rfl | hc
    · exact h.1
    · exact NoEx.mem h.2 c hc
def AllEx : List Chunk → Prop
  | [] => True
  | c :: r => c.excl ∧ AllEx r
theorem AllEx.mem : ∀ {G : List Chunk}, AllEx G → ∀ c ∈ G, c.excl
  | _ :: _, h, c, hc => by
    rcases List.mem_cons.1 hc with rfl | hc
    · exact h.1
    · exact AllEx.mem h.2 c hc

def numb : Nat → List Value → Fr
  | _, [] => []
  | k, v :: r => (k, v) :: numb (k + 1) r
theorem numb_get : ∀ (l : List Value) (k t : Nat) (v : Value), Fr.get (numb k l) t = some v → k ≤ t ∧ l[t - k]? = some v
  | [], _, _, _, h => by simp [numb, Fr.get] at h
  | u :: r, k, t, v, h => by
    simp only [numb, Fr.get] at h
    by_cases he : k = t
    · subst he
      have : Nat.beq k k = true := by simp
      rw [this] at h
      simpa using h
    · have : Nat.beq k t = false := Bool.eq_false_iff.2 (fun h => he (Nat.eq_of_beq_eq_true h))
      rw [this] at h
      obtain ⟨h1, h2⟩ := numb_get r (k + 1) t v h
      refine ⟨by omega, ?_⟩
      rw [show t - k = (t - (k + 1)) + 1 by omega]
      simpa using h2

/-- The results of a function, out of the slots. -/
def resL (L : Fr) : List ResultVar → Option (List Value)
  | [] => some []
  | .tmp t :: r => match Fr.get L t, resL L r with
    | some v, some vs => some (v :: vs)
    | _, _ => none
  | .cell _ _ :: _ => none
def resV (L : Fr) (rs : Array ResultVar) : Option Value := match resL L rs.toList with
  | some [v] => some v
  | some vs => some (.tuple vs.toArray)
  | none => none

theorem resL_ok {P : Program} {N : NB} {a : Act} {L : Fr} {w : World} (hl : Holds N a L) : ∀ (rs : List ResultVar) (vs : List Value), resL L rs = some vs →
    (rs.mapM (fun r => match r with | .tmp t => pure (a.tmps.getD t undef) | .cell b t => do loadVar t (← asAddr (a.tmps.getD b undef)) : ResultVar → Sem Value)).run P w = .ok vs w
  | [], vs, h => by simp [resL] at h; subst h; rfl
  | .tmp t :: r, vs, h => by
    simp only [resL] at h
    split at h
    · rename_i v us h1 h2
      simp only [Option.some.injEq] at h
      subst h
      have := resL_ok (P := P) (w := w) hl r us h2
      simp only [List.mapM_cons, Sem.run_bind, Sem.run_pure, Result.andThen_ok, this, (hl.get t v h1).1]
    · cases h
  | .cell _ _ :: _, vs, h => by simp [resL] at h

theorem resV_ok {P : Program} {N : NB} {fn : Func} {a : Act} {L : Fr} {w : World} {v : Value} (hl : Holds N a L) (h : resV L fn.results = some v) : (results fn a.tmps).run P w = .ok v w := by
  unfold resV at h
  have hm : ∀ vs, resL L fn.results.toList = some vs → (results fn a.tmps).run P w = .ok (if h : vs.toArray.size = 1 then vs.toArray[0] else .tuple vs.toArray) w := fun vs hv => by
    have h1 := resL_ok (P := P) (w := w) hl _ vs hv
    have h2 : (fn.results.mapM (fun r => match r with | .tmp t => pure (a.tmps.getD t undef) | .cell b t => do loadVar t (← asAddr (a.tmps.getD b undef)) : ResultVar → Sem Value)).run P w = .ok vs.toArray w := by
      rw [Array.mapM_eq_mapM_toList]
      simp only [Sem.run_map, h1, Result.andThen_ok]
    unfold results
    simp only [Sem.run_bind]
    erw [h2]
    rfl
  cases hr : resL L fn.results.toList with
  | none => simp [hr] at h
  | some vs =>
    rw [hm vs hr]
    rw [hr] at h
    match vs, h with
    | [], h => simp at h; subst h; rfl
    | [u], h => simp at h; subst h; rfl
    | u :: u' :: r, h => simp at h; subst h; rfl

/-- What stands at the end of a body. -/
def retQ (rs : Array ResultVar) (R : Value → List Chunk → Prop) (e : Exit) (L : Fr) (F : List Chunk) : Prop :=
  (match e with | .normal => True | .ret => True | _ => False) ∧ ∃ v Fo, resV L rs = some v ∧ R v Fo ∧ CSub F Fo ∧ AllEx Fo

theorem unmark {P : Program} {fn : Func} {tmps : Array Value} {R : Ending → World → Prop} : ∀ (ds : List Nat) (w : World), ds.Nodup → (∀ D ∈ ds, w.heap[D]? = some (.deferred (some []))) →
    (∀ w' : World, w'.os = w.os → w'.tape = w.tape → w'.output = w.output → w'.heap.size = w.heap.size → (∀ k, k ∉ ds → w'.heap[k]? = w.heap[k]?) → LeavesInM (WR none) 2 P fn tmps R [] .returning w') →
    LeavesInM (WR none) 2 P fn tmps R (dfs ds) .returning w
  | [], w, _, _, h => h w rfl rfl rfl rfl (fun _ _ => rfl)
  | D :: ds, w, hn, hm, h => by
    obtain ⟨hnD, hnd⟩ := List.nodup_cons.1 hn
    refine ⟨by simp, .inl ⟨D, w.putObj D (.deferred none), rfl, run_takeDeferred (hm D (List.mem_cons_self ..)), ?_⟩⟩
    refine unmark ds _ hnd (fun E hE => ?_) (fun w' h1 h2 h3 h4 h5 => h w' h1 h2 h3 (by simpa using h4) (fun k hk => ?_))
    · have hne : E ≠ D := fun e => by subst e; exact hnD hE
      rw [World.putObj_heap_other hne]
      exact hm E (List.mem_cons_of_mem _ hE)
    · rw [h5 k (fun hk' => hk (List.mem_cons_of_mem _ hk'))]
      have hne : k ≠ D := fun e => by subst e; exact hk (List.mem_cons_self ..)
      exact World.putObj_heap_other hne
theorem enter_holds {args : List Value} {N n : Nat} (hn : n = N) (hle : args.length ≤ N) : Holds ⟨N, []⟩ { tmps := args.toArray ++ Array.replicate (n - args.toArray.size) undef, defers := [] } (numb 0 args) := by
  subst hn
  refine ⟨by simp; omega, rfl, fun t v hv => ?_⟩
  obtain ⟨_, h2⟩ := numb_get args 0 t v hv
  simp only [Nat.sub_zero] at h2
  have hlt : t < args.length := (List.getElem?_eq_some_iff.1 h2).1
  refine ⟨?_, Nat.lt_of_lt_of_le hlt hle⟩
  rw [Array.getD_eq_getD_getElem?, Array.getElem?_append_left (by simpa using hlt)]
  simp [h2]
theorem enter_mem {G : List Chunk} {w : World} (hG : NoEx G) (hs : ∀ c ∈ G, c.sat w) : Mem (fun _ => False) w w G :=
  ⟨⟨rfl, rfl, rfl, Nat.le_refl _, fun _ _ _ => rfl⟩, hs, by
    refine List.Pairwise.imp_of_mem (R := fun _ _ => True) (fun {c d} hc hd _ => fun hex => (hex.elim (hG.mem c hc) (hG.mem d hd)).elim) ?_
    exact List.pairwise_of_forall (fun _ _ => trivial), fun c hc hex => absurd hex (hG.mem c hc)⟩
/-- The end of a body: what stands there, the marks taken. -/
theorem leave {P : Program} {fn : Func} {N : Nat} {w w' : World} {ds : List Nat} {M1 : Nat → Prop} {w1 : World} {F' Fo : List Chunk} {a' : Act} {R : Value → List Chunk → Prop} {v : Value} {L' : Fr}
    (hb : Bs (fun _ => False) w M1 w1 ds) (h1 : Holds ⟨N, ds⟩ a' L') (h2 : Mem M1 w1 w' F') (hres : ∀ w2 : World, (∀ c ∈ F', c.sat w2) → Mem (fun _ => False) w w2 F' → (results fn a'.tmps).run P w2 = .ok v w2)
    (hR : R v Fo) (hsub : CSub F' Fo) (hall : AllEx Fo) :
    LeavesInM (WR none) 2 P fn a'.tmps (fun e w' => ∃ v Fo, e = .returned v ∧ Ext w w' ∧ R v Fo ∧ (∀ c ∈ Fo, c.sat w' ∧ ∀ b, c.foot b → w.heap.size ≤ b) ∧ Fo.Pairwise Chunk.sep) a'.defers .returning w' := by
  rw [h1.defers]
  refine unmark ds w' hb.nd (fun D hD => (hb.marks h2 D hD).2.2) (fun w2 e1 e2 e3 e4 e5 => ?_)
  have ht := hb.total h2
  have hsat : ∀ c ∈ F', c.sat w2 := fun c hc => c.loc w' w2 (fun b hbf => e5 b (fun hD => by
    obtain ⟨o, ho, hoc⟩ := c.cel w' b (ht.sat c hc) hbf
    rw [(hb.marks h2 b hD).2.2] at ho
    simp only [Option.some.injEq] at ho
    subst ho
    cases hoc)) (ht.sat c hc)
  have hm2 : Mem (fun _ => False) w w2 F' := ⟨⟨e1.trans ht.upd.os, e2.trans ht.upd.tape, e3.trans ht.upd.output, by rw [e4]; exact ht.upd.size, fun k hk hf => by
    rw [e5 k (fun hD => by have := (hb.marks h2 k hD).1; omega)]
    exact ht.upd.block k hk hf⟩, hsat, ht.sep, ht.own⟩
  have hmo := hsub.mem hm2
  exact ⟨v, hres w2 hsat hm2, v, Fo, rfl, hmo.upd.ext, hR, fun c hc => ⟨hmo.sat c hc, fun b hb => (hmo.own c hc (hall.mem c hc) b hb).resolve_right id⟩, hmo.sep⟩
theorem pure_of {P : Program} {f : FuncId} {fn : Func} {c : Code} {args : List Value} {G : List Chunk} {R : Value → List Chunk → Prop} (N : Nat) (hf : P.funcs[f]? = some fn) (hb : fn.body = some c) (hn : fn.ntmps = N) (hle : Nat.ble args.length N = true) (he : Enters P f) (hG : NoEx G)
    (h : ∀ w0, Tr P ⟨N, none⟩ (fun _ => False) w0 c (numb 0 args) G (retQ fn.results R)) : Pure P f args.toArray G R := ⟨he, fun w hs => by
  refine (callsIn_WR (rd := none) (n := 2)).1 (callsIn_of_wp_marks hf hb trivial ?_)
  refine wpIn_mono (h w [] (fun _ => False) w (Bs.refl _ _) _ w (enter_holds hn (Nat.le_of_ble_eq_true hle)) (enter_mem hG hs)) fun e a' w' ⟨ds, M1, w1, hb, L', F', h1, h2, hq⟩ => ?_
  obtain ⟨hq1, v, Fo, hv, hR, hsub, hall⟩ := hq
  have hend := leave (fn := fn) (P := P) (R := R) hb h1 h2 (fun w2 _ _ => resV_ok h1 hv) hR hsub hall
  cases e with
  | normal => exact hend
  | ret => exact hend
  | _ => exact hq1.elim⟩

section
variable {P : Program} {N : NB} {M : Nat → Prop} {w0 : World} {L : Fr} {F : List Chunk} {K : Fr → List Chunk → Prop} {b : Bool} {o : Oper} {v : Value} {x y : Operand} {t t' : TypeId}

theorem eff_value {d : Nat} (hdd : o.dst = some d) (hd : Nat.ble (d + 1) N.n = true) (h : ∀ a w, Holds N a L → Mem M w0 w F → ∃ v w', (execOp a.eval o).run P w = .ok (.value v) w' ∧ Ext w w' ∧ ∃ F', Mem M w0 w' F' ∧ K (addL d v L) F') : Eff P N M w0 b o L F K := fun a w hl hm => by
  obtain ⟨v, w', h1, h2, F', h3, h4⟩ := h a w hl hm
  simp only [Oper.wp, h1, Oper.upon_value]
  exact ⟨fun _ => h2, _, _, hl.add hdd hd v, h3, h4⟩

/-- A call. -/
theorem eCall {f : FuncId} {xs : List Operand} {tys : Array TypeId} {vals : List Value} {G : List Chunk} {R : Value → List Chunk → Prop} (ho : o.op = .call { callee := .value (.func f), args := xs.toArray, argTypes := tys }) {d : Nat} (hdd : o.dst = some d) (hd : Nat.ble (d + 1) N.n = true)
    (hs : Pure P f vals.toArray G R) (hx : EvL L xs vals) [he : Ent F G] (hK : ∀ v Fo, R v Fo → K (addL d v L) (Fo ++ F)) : Eff P N M w0 b o L F K := fun a w hl hm => by
  have hargs : (xs.toArray.map a.eval) = vals.toArray := by simp [hl.evalL hx]
  have hrun : (execOp a.eval o).run P w = .ok (.enter f vals.toArray) w := by
    simp only [execOp, ho, resolve, hargs, Sem.run_bind, Deferred.ofValue, Act.eval, Sem.run_pure, Result.andThen_ok, invoke, Array.append_empty, Array.empty_append, hs.ent _ _]
  simp only [Oper.wp, hrun, Oper.upon_enter]
  refine (hs.run w (he.ent M w0 w hm)).mono fun e w' ⟨v, Fo, h1, h2, h3, h4, h5⟩ => ?_
  subst h1
  exact ⟨fun _ => h2, _, _, hl.add hdd hd v, hm.add h2 h4 h5, hK v Fo h3⟩

theorem eCallV {f : FuncId} {xs : List Operand} {tys : Array TypeId} {vals : List Value} {G : List Chunk} (ho : o.op = .call { callee := .value (.func f), args := xs.toArray, argTypes := tys }) {d : Nat} (hdd : o.dst = some d) (hd : Nat.ble (d + 1) N.n = true)
    (hs : Pure P f vals.toArray G (isV v)) (hx : EvL L xs vals) [he : Ent F G] (hK : K (addL d v L) F) : Eff P N M w0 b o L F K :=
  eCall ho hdd hd hs hx (he := he) fun u Fo ⟨h1, h2⟩ => by subst h1; subst h2; exact hK

/-- A value, and one new chunk. -/
def one (R : Value → Chunk → Prop) : Value → List Chunk → Prop := fun u Fo => ∃ c, Fo = [c] ∧ R u c
theorem eCall1 {f : FuncId} {xs : List Operand} {tys : Array TypeId} {vals : List Value} {G : List Chunk} {R : Value → Chunk → Prop} (ho : o.op = .call { callee := .value (.func f), args := xs.toArray, argTypes := tys }) {d : Nat} (hdd : o.dst = some d) (hd : Nat.ble (d + 1) N.n = true)
    (hs : Pure P f vals.toArray G (one R)) (hx : EvL L xs vals) [he : Ent F G] (hK : ∀ v c, R v c → K (addL d v L) (c :: F)) : Eff P N M w0 b o L F K :=
  eCall ho hdd hd hs hx (he := he) fun u Fo ⟨c, h1, h2⟩ => by subst h1; exact hK u c h2
/-- A value of which something is known, no chunk. -/
def val (R : Value → Prop) : Value → List Chunk → Prop := fun u Fo => Fo = [] ∧ R u
theorem eCall0 {f : FuncId} {xs : List Operand} {tys : Array TypeId} {vals : List Value} {G : List Chunk} {R : Value → Prop} (ho : o.op = .call { callee := .value (.func f), args := xs.toArray, argTypes := tys }) {d : Nat} (hdd : o.dst = some d) (hd : Nat.ble (d + 1) N.n = true)
    (hs : Pure P f vals.toArray G (val R)) (hx : EvL L xs vals) [he : Ent F G] (hK : ∀ v, R v → K (addL d v L) F) : Eff P N M w0 b o L F K :=
  eCall ho hdd hd hs hx (he := he) fun u Fo ⟨h1, h2⟩ => by subst h1; exact hK u h2

theorem newBlk (w : World) (t : TypeId) (vs : List Value) : (blk ⟨w.heap.size, 0, none⟩ t vs).sat (w.alloc (.cells vs.toArray t)) := ⟨rfl, heap_alloc_new w _⟩
theorem alloc_ext (w : World) (o : Obj) : Ext w (w.alloc o) := (Below.refl _ _).alloc (Nat.le_refl _) o

/-- A variable of its own. -/
theorem eBox {vs : List Value} (ho : o.op = .box t x) {d : Nat} (hdd : o.dst = some d) (hd : Nat.ble (d + 1) N.n = true) (hx : ev L x = some v) (hv : v.cells = vs.toArray) (hK : ∀ p : Addr, K (addL d (.pointer (some p)) L) (blk p t vs :: F)) : Eff P N M w0 b o L F K := eff_value hdd hd fun a w hl hm => by
  refine ⟨_, _, by simp [execOp, ho, hl.eval hx, Instr.box, newVar, newRow, newObj, Sem.run, hv]; rfl, alloc_ext w _, _, hm.add (G := [blk ⟨w.heap.size, 0, none⟩ t vs]) (alloc_ext w _) (fun c hc => ?_) (List.pairwise_singleton _ _), hK _⟩
  simp only [List.mem_singleton] at hc
  subst hc
  exact ⟨newBlk w t vs, fun b hb => by simp only [blk] at hb; omega⟩

class ZrTy (P : Program) (t : TypeId) (vs : outParam (List Value)) : Prop where
  zr : ∃ z, (P.info? t).bind (·.zero) = some z ∧ z.cells = vs.toArray
theorem eAlloc {vs : List Value} (ho : o.op = .alloc t) [h : ZrTy P t vs] {d : Nat} (hdd : o.dst = some d) (hd : Nat.ble (d + 1) N.n = true) (hK : ∀ p : Addr, K (addL d (.pointer (some p)) L) (blk p t vs :: F)) : Eff P N M w0 b o L F K := eff_value hdd hd fun a w hl hm => by
  obtain ⟨z, hz, hv⟩ := h.zr
  have hzr : (zeroValue t).run P w = .ok z w := by
    cases hi : P.info? t with
    | none => simp [hi] at hz
    | some i => simp only [hi, Option.bind_some] at hz; simp [zeroValue, typeInfo, hi, hz]
  refine ⟨_, _, by simp [execOp, ho, Instr.alloc, hzr, newVar, newRow, newObj, Sem.run, hv]; rfl, alloc_ext w _, _, hm.add (G := [blk ⟨w.heap.size, 0, none⟩ t vs]) (alloc_ext w _) (fun c hc => ?_) (List.pairwise_singleton _ _), hK _⟩
  simp only [List.mem_singleton] at hc
  subst hc
  exact ⟨newBlk w t vs, fun b hb => by simp only [blk] at hb; omega⟩
end
end Go.Proofs.Ytjmojhflnjbgaaa

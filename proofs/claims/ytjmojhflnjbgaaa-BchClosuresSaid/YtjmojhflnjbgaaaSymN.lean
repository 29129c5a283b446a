/-
  FUNCTIONS THAT WRITE. One sentence: the contract of a function that turns chunks that it is handed, and the rules for calls of it, of function values too.
  Conditions: none. Plain theorems on the model's own words; no program is named here.
-/
import Derived.Test.YtjmojhflnjbgaaaSymM
import Derived.Test.YtjmojhflnjbgaaaSymL
set_option linter.unusedSimpArgs false
set_option linter.unusedVariables false
namespace Go.Proofs.Ytjmojhflnjbgaaa
open Go.RowKit

/-- What f does with the chunks of H, where those of G can be read: it hands back a value and leaves the chunks of Fo, on the blocks of H and on new ones, as R says; all else lies as it lay. -/
structure Mut (P : Program) (f : FuncId) (args : Array Value) (H G : List Chunk) (R : Value → List Chunk → Prop) : Prop where
  ent : Enters P f
  run : ∀ w, Mem (ownd H) w w (H ++ G) → Calls P f args w (fun e w' => ∃ v Fo, e = .returned v ∧ R v Fo ∧ Mem (ownd H) w w' Fo ∧ AllEx Fo)
theorem Mut.mono {P : Program} {f : FuncId} {args : Array Value} {H G : List Chunk} {R R' : Value → List Chunk → Prop} (h : Mut P f args H G R) (hr : ∀ v Fo, R v Fo → R' v Fo) : Mut P f args H G R' :=
  ⟨h.ent, fun w hm => (h.run w hm).mono fun _ _ ⟨v, Fo, h1, h2, h3⟩ => ⟨v, Fo, h1, hr _ _ h2, h3⟩⟩
/-- A function that only reads is one that writes nothing. -/
theorem Pure.mut {P : Program} {f : FuncId} {args : Array Value} {G : List Chunk} {R : Value → List Chunk → Prop} (h : Pure P f args G R) (hR : ∀ v Fo, R v Fo → AllEx Fo) : Mut P f args [] G R :=
  ⟨h.ent, fun w hm => (h.run w (fun c hc => hm.sat c (by simpa using hc))).mono fun e w' ⟨v, Fo, h1, h2, h3, h4, h5⟩ => ⟨v, Fo, h1, h3,
    ⟨Upd.of_ext h2, fun c hc => (h4 c hc).1, h5, fun c hc _ b hb => .inl ((h4 c hc).2 b hb)⟩, hR v Fo h3⟩⟩

/-- These very chunks, and what is left. -/
class PkS (F H : List Chunk) (F' : outParam (List Chunk)) : Prop where
  perm : F.Perm (H ++ F')
instance PkS.nil (F : List Chunk) : PkS F [] F := ⟨List.Perm.refl _⟩
instance PkS.cons (F F1 F2 H : List Chunk) (c : Chunk) [h : Pk F c F1] [k : PkS F1 H F2] : PkS F (c :: H) F2 := ⟨h.perm.trans (k.perm.cons c)⟩

theorem mut_of {P : Program} {f : FuncId} {fn : Func} {c : Code} {args : List Value} {H G F : List Chunk} {R : Value → List Chunk → Prop} (N : Nat) (hF : H ++ G = F) (hf : P.funcs[f]? = some fn) (hb : fn.body = some c) (hn : fn.ntmps = N) (hle : Nat.ble args.length N = true) (he : Enters P f)
    (h : ∀ w0, Tr P ⟨N, none⟩ (ownd H) w0 c (numb 0 args) F (retC P fn.results R)) : Mut P f args.toArray H G R := ⟨he, fun w hs => by
  subst hF
  refine (callsIn_WR (rd := none) (n := 2)).1 (callsIn_of_wp_marks hf hb trivial ?_)
  refine wpIn_mono (h w [] (ownd H) w (Bs.refl _ _) _ w (enter_holds hn (Nat.le_of_ble_eq_true hle)) hs) fun e a' w' ⟨ds, M1, w1, hb, L', F', h1, h2, hq⟩ => ?_
  obtain ⟨hq1, vs, Fo, hv, hR, hsub, hall⟩ := hq
  have hend : LeavesInM (WR none) 2 P fn a'.tmps (fun e w' => ∃ v Fo, e = .returned v ∧ R v Fo ∧ Mem (ownd H) w w' Fo ∧ AllEx Fo) a'.defers .returning w' := by
    rw [h1.defers]
    refine unmark ds w' hb.nd (fun D hD => (hb.marks h2 D hD).2.2) (fun w2 e1 e2 e3 e4 e5 => ?_)
    have ht := hb.total h2
    have hsat : ∀ c ∈ F', c.sat w2 := fun c hc => c.loc w' w2 (fun b hbf => e5 b (fun hD => by
      obtain ⟨o, ho, hoc⟩ := c.cel w' b (ht.sat c hc) hbf
      rw [(hb.marks h2 b hD).2.2] at ho
      simp only [Option.some.injEq] at ho
      subst ho
      cases hoc)) (ht.sat c hc)
    have hm2 : Mem (ownd H) w w2 F' := ⟨⟨e1.trans ht.upd.os, e2.trans ht.upd.tape, e3.trans ht.upd.output, by rw [e4]; exact ht.upd.size, fun k hk hf => by
      rw [e5 k (fun hD => by have := (hb.marks h2 k hD).1; omega)]
      exact ht.upd.block k hk hf⟩, hsat, ht.sep, ht.own⟩
    exact ⟨tup vs, results_okC h1 hm2 hv, _, Fo, rfl, hR, hsub.mem hm2, hall⟩
  cases e with
  | normal => exact hend
  | ret => exact hend
  | _ => exact hq1.elim⟩

/-- What a function value reads, as one chunk. -/
def bun (G : List Chunk) : Chunk where
  foot b := ∃ c ∈ G, c.foot b
  excl := False
  sat w := ∀ c ∈ G, c.sat w
  loc w w' h hs := fun c hc => c.loc w w' (fun b hb => h b ⟨c, hc, hb⟩) (hs c hc)
  cel w b hs hb := by
    obtain ⟨c, hc, hf⟩ := hb
    exact c.cel w b (hs c hc) hf
class HasBun (F G : List Chunk) : Prop where
  has : bun G ∈ F
instance HasBun.head (F G : List Chunk) : HasBun (bun G :: F) G := ⟨List.mem_cons_self ..⟩
instance HasBun.tail (c : Chunk) (F G : List Chunk) [h : HasBun F G] : HasBun (c :: F) G := ⟨List.mem_cons_of_mem _ h.has⟩
theorem ent_bun {F G : List Chunk} [h : HasBun F G] : Ent F G := ⟨fun M w0 w hm c hc => hm.sat _ h.has c hc, fun g hg b hb => ⟨_, h.has, g, hg, hb⟩⟩
instance (priority := low) Ent.ofBun (F G : List Chunk) [h : HasBun F G] : Ent F G := ent_bun
instance Ent.bun (F H G : List Chunk) [h : Ent F H] [k : Ent F G] : Ent F (bun H :: G) := ⟨fun M w0 w hm c hc => by
  rcases List.mem_cons.1 hc with rfl | hc
  · exact fun c hc => h.ent M w0 w hm c hc
  · exact k.ent M w0 w hm c hc, fun g hg b hb => by
  rcases List.mem_cons.1 hg with rfl | hg
  · obtain ⟨c, hc, hf⟩ := hb
    exact h.ft c hc b hf
  · exact k.ft g hg b hb⟩

section
variable {P : Program} {N : NB} {M : Nat → Prop} {w0 : World} {L : Fr} {F F' : List Chunk} {K : Fr → List Chunk → Prop} {b : Bool} {o : Oper} {v : Value} {x y : Operand} {t t' : TypeId}
theorem put_none {N : NB} {a : Act} {L : Fr} (h : Holds N a L) : Holds N (a.put none v) L := h

/-- What a call of a function that writes leaves. -/
theorem mut_mem {H G : List Chunk} {w : World} (hm : Mem M w0 w F) (hp : F.Perm (H ++ F')) [he : Ent F' G] (hG : NoEx G) : Mem (ownd H) w w (H ++ G) := by
  have hm' := hm.perm hp
  have h1 := List.pairwise_append.1 hm'.sep
  have hF' : Mem M w0 w F' := ⟨hm'.upd, fun c hc => hm'.sat c (List.mem_append_right _ hc), h1.2.1, fun c hc => hm'.own c (List.mem_append_right _ hc)⟩
  refine ⟨⟨rfl, rfl, rfl, Nat.le_refl _, fun _ _ _ => rfl⟩, fun c hc => ?_, ?_, fun c hc hex b hb => ?_⟩
  · rcases List.mem_append.1 hc with hc | hc
    · exact hm'.sat c (List.mem_append_left _ hc)
    · exact he.ent M w0 w hF' c hc
  · refine List.pairwise_append.2 ⟨h1.1, ?_, fun c hc g hg hex b hb hb' => ?_⟩
    · refine List.Pairwise.imp_of_mem (R := fun _ _ => True) (fun {c d} hc hd _ => fun hex => (hex.elim (hG.mem c hc) (hG.mem d hd)).elim) ?_
      exact List.pairwise_of_forall (fun _ _ => trivial)
    · obtain ⟨d, hd, hf⟩ := he.ft g hg b hb'
      exact h1.2.2 c hc d hd (.inl (hex.resolve_right (hG.mem g hg))) b hb hf
  · rcases List.mem_append.1 hc with hc | hc
    · exact .inr ⟨c, hc, hex, hb⟩
    · exact absurd hex (hG.mem c hc)
theorem mut_back {H Fo : List Chunk} {w w' : World} (hm : Mem M w0 w F) (hp : F.Perm (H ++ F')) (hH : AllEx H) (k : Mem (ownd H) w w' Fo) (hFo : AllEx Fo) : Mem M w0 w' (Fo ++ F') := by
  have hm' := hm.perm hp
  have h1 := List.pairwise_append.1 hm'.sep
  have own : ∀ b, ownd H b → w0.heap.size ≤ b ∨ M b := fun b ⟨c, hc, hex, hf⟩ => hm'.own c (List.mem_append_left _ hc) hex b hf
  refine ⟨hm'.upd.trans k.upd (fun x hx hM => (own x hM).resolve_left (by omega)), fun c hc => ?_, List.pairwise_append.2 ⟨k.sep, h1.2.1, fun c hc d hd hex b hb hb' => ?_⟩, fun c hc hex b hb => ?_⟩
  · rcases List.mem_append.1 hc with hc | hc
    · exact k.sat c hc
    · have hs := hm'.sat c (List.mem_append_right _ hc)
      exact c.loc w w' (fun b hb => k.upd.block b (c.lt w b hs hb) (fun ⟨d, hd, hex, hf⟩ => h1.2.2 d hd c hc (.inl hex) b hf hb)) hs
  · rcases k.own c hc (hFo.mem c hc) b hb with h2 | ⟨e, he, hex', hf⟩
    · have := d.lt w b (hm'.sat d (List.mem_append_right _ hd)) hb'
      omega
    · exact h1.2.2 e he d hd (.inl hex') b hf hb'
  · rcases List.mem_append.1 hc with hc | hc
    · rcases k.own c hc hex b hb with h2 | h2
      · exact .inl (Nat.le_trans hm'.upd.size h2)
      · exact own b h2
    · exact hm'.own c (List.mem_append_right _ hc) hex b hb

/-- A call of a function that writes, by its name. -/
theorem eCallM {f : FuncId} {xs : List Operand} {tys : Array TypeId} {vals : List Value} {H G : List Chunk} {R : Value → List Chunk → Prop} (ho : o.op = .call { callee := .value (.func f), args := xs.toArray, argTypes := tys }) {d : Nat} (hdd : o.dst = some d) (hd : Nat.ble (d + 1) N.n = true)
    (hs : Mut P f vals.toArray H G R) (hx : EvL L xs vals) [hp : PkS F H F'] [he : Ent F' G] (hK : ∀ v Fo, R v Fo → K (addL d v L) (Fo ++ F')) (hG : NoEx G := by repeat' (first | exact trivial | exact id | refine ⟨?_, ?_⟩)) (hH : AllEx H := by repeat' (first | exact trivial | refine ⟨?_, ?_⟩)) : Eff P N M w0 false o L F K := fun a w hl hm => by
  have hargs : (xs.toArray.map a.eval) = vals.toArray := by simp [hl.evalL hx]
  have hrun : (execOp a.eval o).run P w = .ok (.enter f vals.toArray) w := by
    simp only [execOp, ho, resolve, hargs, Sem.run_bind, Deferred.ofValue, Act.eval, Sem.run_pure, Result.andThen_ok, invoke, Array.append_empty, Array.empty_append, hs.ent _ _]
  simp only [Oper.wp, hrun, Oper.upon_enter]
  refine (hs.run w (mut_mem hm hp.perm hG)).mono fun e w' ⟨v, Fo, h1, h2, h3, h4⟩ => ?_
  subst h1
  exact ⟨fun h => (by cases h), _, _, hl.add hdd hd v, mut_back hm hp.perm hH h3 h4, hK v Fo h2⟩
/-- A value, and two new chunks. -/
def two (R : Value → Chunk → Chunk → Prop) : Value → List Chunk → Prop := fun u Fo => ∃ c d, Fo = [c, d] ∧ R u c d
theorem eCall2 {f : FuncId} {xs : List Operand} {tys : Array TypeId} {vals : List Value} {G : List Chunk} {R : Value → Chunk → Chunk → Prop} (ho : o.op = .call { callee := .value (.func f), args := xs.toArray, argTypes := tys }) {d : Nat} (hdd : o.dst = some d) (hd : Nat.ble (d + 1) N.n = true)
    (hs : Pure P f vals.toArray G (two R)) (hx : EvL L xs vals) [he : Ent F G] (hK : ∀ v c e, R v c e → K (addL d v L) (c :: e :: F)) : Eff P N M w0 b o L F K :=
  eCall ho hdd hd hs hx (he := he) fun u Fo ⟨c, e, h1, h2⟩ => by subst h1; exact hK u c e h2
/-- A slice of rows. -/
def isRows (t e : TypeId) (l : List (List Int)) (v : Value) (c d : Chunk) : Prop := ∃ A cap rs, v = .slice A rs.length cap ∧ c = ow A t cap (hdrs rs) ∧ d = rowsCh e rs ∧ rs.map (·.xs) = l
/-- A slice of rows, and no error. -/
def isRowsE (t e : TypeId) (l : List (List Int)) (v : Value) (c d : Chunk) : Prop := ∃ A cap rs, v = .tuple #[.slice A rs.length cap, .int .i64 0] ∧ c = ow A t cap (hdrs rs) ∧ d = rowsCh e rs ∧ rs.map (·.xs) = l
/-- A call of a function that writes, by its name; one chunk comes back. -/
theorem eCallM1 {f : FuncId} {xs : List Operand} {tys : Array TypeId} {vals : List Value} {H G : List Chunk} {R : Value → Chunk → Prop} (ho : o.op = .call { callee := .value (.func f), args := xs.toArray, argTypes := tys }) {d : Nat} (hdd : o.dst = some d) (hd : Nat.ble (d + 1) N.n = true)
    (hs : Mut P f vals.toArray H G (one R)) (hx : EvL L xs vals) [hp : PkS F H F'] [he : Ent F' G] (hK : ∀ v c, R v c → K (addL d v L) (c :: F')) (hG : NoEx G := by repeat' (first | exact trivial | exact id | refine ⟨?_, ?_⟩)) (hH : AllEx H := by repeat' (first | exact trivial | refine ⟨?_, ?_⟩)) : Eff P N M w0 false o L F K :=
  eCallM ho hdd hd hs hx (hp := hp) (he := he) (fun u Fo ⟨c, h1, h2⟩ => by subst h1; exact hK u c h2) hG hH
/-- A call of a function value: what it caught comes behind the arguments. -/
theorem eCallF {f : FuncId} {z : Operand} {xs : List Operand} {tys : Array TypeId} {vals lb : List Value} {H G : List Chunk} {R : Value → List Chunk → Prop} (ho : o.op = .call { callee := .value z, args := xs.toArray, argTypes := tys }) {d : Nat} (hdd : o.dst = some d) (hd : Nat.ble (d + 1) N.n = true)
    (hz : ev L z = some (.func (.func f) #[] lb.toArray)) (hs : Mut P f (vals ++ lb).toArray H G R) (hx : EvL L xs vals) [hp : PkS F H F'] [he : Ent F' G] (hK : ∀ v Fo, R v Fo → K (addL d v L) (Fo ++ F')) (hG : NoEx G := by repeat' (first | exact trivial | exact id | refine ⟨?_, ?_⟩)) (hH : AllEx H := by repeat' (first | exact trivial | refine ⟨?_, ?_⟩)) : Eff P N M w0 false o L F K := fun a w hl hm => by
  have hargs : (xs.toArray.map a.eval) = vals.toArray := by simp [hl.evalL hx]
  have hrun : (execOp a.eval o).run P w = .ok (.enter f (vals ++ lb).toArray) w := by
    have h1 : vals.toArray ++ lb.toArray = (vals ++ lb).toArray := by simp
    simp only [execOp, ho, resolve, hargs, Sem.run_bind, Deferred.ofValue, hl.eval hz, Sem.run_pure, Result.andThen_ok, invoke, Array.append_empty, Array.empty_append, h1, hs.ent _ _]
  simp only [Oper.wp, hrun, Oper.upon_enter]
  refine (hs.run w (mut_mem hm hp.perm hG)).mono fun e w' ⟨v, Fo, h1, h2, h3, h4⟩ => ?_
  subst h1
  exact ⟨fun h => (by cases h), _, _, hl.add hdd hd v, mut_back hm hp.perm hH h3 h4, hK v Fo h2⟩
/-- The same of a function that only reads. -/
theorem eCallFP {f : FuncId} {z : Operand} {xs : List Operand} {tys : Array TypeId} {vals lb : List Value} {G : List Chunk} {R : Value → List Chunk → Prop} (ho : o.op = .call { callee := .value z, args := xs.toArray, argTypes := tys }) {d : Nat} (hdd : o.dst = some d) (hd : Nat.ble (d + 1) N.n = true)
    (hz : ev L z = some (.func (.func f) #[] lb.toArray)) (hs : Pure P f (vals ++ lb).toArray G R) (hx : EvL L xs vals) [he : Ent F G] (hK : ∀ v Fo, R v Fo → K (addL d v L) (Fo ++ F)) : Eff P N M w0 b o L F K := fun a w hl hm => by
  have hargs : (xs.toArray.map a.eval) = vals.toArray := by simp [hl.evalL hx]
  have hrun : (execOp a.eval o).run P w = .ok (.enter f (vals ++ lb).toArray) w := by
    have h1 : vals.toArray ++ lb.toArray = (vals ++ lb).toArray := by simp
    simp only [execOp, ho, resolve, hargs, Sem.run_bind, Deferred.ofValue, hl.eval hz, Sem.run_pure, Result.andThen_ok, invoke, Array.append_empty, Array.empty_append, h1, hs.ent _ _]
  simp only [Oper.wp, hrun, Oper.upon_enter]
  refine (hs.run w (he.ent M w0 w hm)).mono fun e w' ⟨v, Fo, h1, h2, h3, h4, h5⟩ => ?_
  subst h1
  exact ⟨fun _ => h2, _, _, hl.add hdd hd v, hm.add h2 h4 h5, hK v Fo h3⟩
theorem eCallFV {f : FuncId} {z : Operand} {xs : List Operand} {tys : Array TypeId} {vals lb : List Value} {G : List Chunk} (ho : o.op = .call { callee := .value z, args := xs.toArray, argTypes := tys }) {d : Nat} (hdd : o.dst = some d) (hd : Nat.ble (d + 1) N.n = true)
    (hz : ev L z = some (.func (.func f) #[] lb.toArray)) (hs : Pure P f (vals ++ lb).toArray G (isV v)) (hx : EvL L xs vals) (he : Ent F G) (hK : K (addL d v L) F) : Eff P N M w0 b o L F K :=
  eCallFP ho hdd hd hz hs hx (he := he) fun u Fo ⟨h1, h2⟩ => by subst h1; subst h2; exact hK
end
end Go.Proofs.Ytjmojhflnjbgaaa

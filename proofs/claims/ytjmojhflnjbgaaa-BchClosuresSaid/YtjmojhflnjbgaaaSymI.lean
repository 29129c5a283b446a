/-
  EFFECTS IN MORE THAN ONE ORDER, COPIES. One sentence: a region two of whose effects may come up in either order is walked in both; append that never writes, copy, the nil test.
  Conditions: none. Plain theorems on the model's own words; no program is named here.
-/
import Derived.Test.YtjmojhflnjbgaaaSymH
import Derived.Laws.CopyRow
import Derived.Laws.Cover3
import Derived.Laws.IdiomCopy
import Derived.Deep.Upon
set_option linter.unusedSimpArgs false
set_option linter.unusedVariables false
namespace Go.Proofs.Ytjmojhflnjbgaaa
open Go.RowKit

/-- A plan: one after the other, and where two effects are ready, both ways. -/
inductive Pl where
  | nil : Pl
  | one (i : Nat) (r : Pl) : Pl
  | two (i : Nat) (r : Pl) (j : Nat) (s : Pl) : Pl
def Pl.len : Pl → Nat
  | .nil => 0
  | .one _ r => r.len + 1
  | .two _ r _ _ => r.len + 1
def Pl.heads : Pl → List Nat
  | .nil => []
  | .one i r => i :: r.heads
  | .two i r _ _ => i :: r.heads

section
variable {P : Program} {ops : Array Oper} {md : Region.Mode}
def wpHeadT (P : Program) (ops : Array Oper) (T : Act → World → Prop) : Pl → Act → World → Prop
  | .nil, a, w => T a w
  | .one i r, a, w => opH P ops i (wpHeadT P ops T r) a w
  | .two i r j s, a, w => opH P ops i (wpHeadT P ops T r) a w ∧ opH P ops j (wpHeadT P ops T s) a w
def effAt (ops : Array Oper) (i : Nat) : Bool := match ops[i]? with
  | some o => isEff o.op
  | none => false
def headOkT (md : Region.Mode) (ops : Array Oper) (hds tls : List Nat) : Pl → Array Bool → Bool
  | .nil, listed => (Region.ready md ops listed).all (fun j => tls.contains j) && seqOk md ops tls listed
  | .one i r, listed => hds.contains i && (match ops[i]? with
     | some o => if isEff o.op = true then Region.ready md ops listed == [i] else (Region.ready md ops listed).contains i && Region.free md ops listed i
     | none => false) && headOkT md ops hds tls r (listed.setIfInBounds i true)
  | .two i r j s, listed => hds.contains i && hds.contains j && (Region.ready md ops listed == [i, j]) && (r.len == s.len) && headOkT md ops hds tls r (listed.setIfInBounds i true) && headOkT md ops hds tls s (listed.setIfInBounds j true)
def regionOkT (ops : Array Oper) (p : Pl) (tls : List Nat) : Bool :=
  Region.noSelect ops && (List.range ops.size).all (fun j => p.heads.contains j || tls.contains j) && tailOk .any ops p.heads tls && p.heads.all (fun j => !tls.contains j) &&
  headOkT .any ops p.heads tls p (Array.replicate ops.size false) && (p.len + tls.length == ops.size)

theorem wpH_of_headT {hds tls : List Nat} {T : Act → World → Prop} (hsel : Region.noSelect ops = true) (hcov : ∀ j, j < ops.size → hds.contains j = true ∨ j ∈ tls)
    (ht : tailOk md ops hds tls = true) (hdis : ∀ j, tls.contains j = true → hds.contains j = false) : ∀ (p : Pl) (listed : Array Bool) (a : Act) (w : World), Closed md ops listed →
    headOkT md ops hds tls p listed = true → wpHeadT P ops T p a w →
    wpH P md ops (fun j => hds.contains j) (fun l a w => (seqOk md ops tls l = true ∧ ∀ j ∈ Region.ready md ops l, hds.contains j = false) ∧ T a w) p.len listed a w
  | .nil, listed, a, w, _, hB, h => by
    simp only [headOkT, Bool.and_eq_true, List.all_eq_true] at hB
    exact ⟨⟨hB.2, fun j hj => hdis j (hB.1 j hj)⟩, h⟩
  | .one i r, listed, a, w, hcl, hB, h => by
    simp only [headOkT, Bool.and_eq_true] at hB
    obtain ⟨⟨hin, hB1⟩, hB2⟩ := hB
    have hrec := fun (hir : i ∈ Region.ready md ops listed) (a' : Act) (w' : World) (h' : wpHeadT P ops T r a' w') => wpH_of_headT hsel hcov ht hdis r _ a' w' (closed_set hcl hir) hB2 h'
    cases ho : ops[i]? with
    | none => simp [ho] at hB1
    | some o =>
      simp only [ho] at hB1
      by_cases he : isEff o.op = true
      · simp only [he, if_true, beq_iff_eq] at hB1
        refine ⟨by rw [hB1]; simp, fun j hj => ?_⟩
        rw [hB1] at hj
        have hji : j = i := by simpa using hj
        subst hji
        exact ⟨hin, opH_mono (fun a' w' _ h' => hrec (by rw [hB1]; simp) a' w' h') h⟩
      · simp only [he, Bool.false_eq_true, if_false, Bool.and_eq_true] at hB1
        have h' := h
        simp only [wpHeadT] at h'
        unfold opH at h'
        simp only [ho, he] at h'
        obtain ⟨v, hy, hk⟩ := h'
        exact wpH_first ho (Region.noSelect_spec hsel) hcov ht hin (fun l a w hL => hL.1.2) r.len listed a w hcl (Region.free_spec ho hB1.2) (by simpa using hB1.1) hy (by simpa using he) (hrec (by simpa using hB1.1) _ _ hk)
  | .two i r j s, listed, a, w, hcl, hB, h => by
    simp only [headOkT, Bool.and_eq_true, beq_iff_eq] at hB
    obtain ⟨⟨⟨⟨⟨hini, hinj⟩, hready⟩, hlen⟩, hB1⟩, hB2⟩ := hB
    refine ⟨by rw [hready]; simp, fun k hk => ?_⟩
    have hi : i ∈ Region.ready md ops listed := by rw [hready]; simp
    have hj : j ∈ Region.ready md ops listed := by rw [hready]; simp
    rw [hready] at hk
    rcases List.mem_cons.1 hk with rfl | hk
    · exact ⟨hini, opH_mono (fun a' w' _ h' => wpH_of_headT hsel hcov ht hdis r _ a' w' (closed_set hcl hi) hB1 h') h.1⟩
    · have hkj : k = j := by simpa using hk
      subst hkj
      exact ⟨hinj, opH_mono (fun a' w' _ h' => by
        have := wpH_of_headT hsel hcov ht hdis s _ a' w' (closed_set hcl hj) hB2 h'
        rwa [← hlen] at this) h.2⟩

theorem wpAny_tree {Q : Exit → Act → World → Prop} {a : Act} {w : World} (p : Pl) (tls : List Nat) (hB : regionOkT ops p tls = true)
    (h : wpHeadT P ops (wpTail P ops Q tls) p a w) : wpAny P .any ops Q ops.size (Array.replicate ops.size false) a w := by
  simp only [regionOkT, Bool.and_eq_true, beq_iff_eq, List.all_eq_true, Bool.or_eq_true, Bool.not_eq_true', List.mem_range] at hB
  obtain ⟨⟨⟨⟨⟨hsel, hcov⟩, ht⟩, hdis⟩, hh⟩, hlen⟩ := hB
  have H := wpH_of_headT (md := .any) (hds := p.heads) (tls := tls) hsel (fun j hj => by
    rcases hcov j hj with h | h
    · exact .inl h
    · exact .inr (by simpa using h)) ht (fun j hj => by
    cases hc : p.heads.contains j with
    | false => rfl
    | true => have := hdis j (by simpa using hc); rw [this] at hj; cases hj) p (Array.replicate ops.size false) a _ (closed_start _) hh h
  have := wpAny_of_wpH (Q' := Q) (g := tls.length) (fun l a' w' hL => wpAny_of_tail tls l a' w' hL.1.1 hL.2) _ _ _ _ H
  rwa [hlen] at this
end

section
variable {P : Program} {N : NB} {M : Nat → Prop} {w0 : World} {L : Fr} {F F' : List Chunk} {K : Fr → List Chunk → Prop} {b : Bool} {ops : List Oper} {o : Oper} {v z : Value} {x y : Operand} {t t' e : TypeId} {bytes : Nat}
def LstT (P : Program) (N : NB) (M : Nat → Prop) (w0 : World) (ops : List Oper) (K : Fr → List Chunk → Prop) : Pl → Fr → List Chunk → Prop
  | .nil, L, F => K L F
  | .one i r, L, F => match nth ops i with
    | some o => StepO P N M w0 true ops o L F (LstT P N M w0 ops K r)
    | none => False
  | .two i r j s, L, F => (match nth ops i with
    | some o => StepO P N M w0 true ops o L F (LstT P N M w0 ops K r)
    | none => False) ∧ (match nth ops j with
    | some o => StepO P N M w0 true ops o L F (LstT P N M w0 ops K s)
    | none => False)
theorem LstT.head {T : Act → World → Prop} (hT : ∀ a w L F, Holds N a L → Mem M w0 w F → K L F → T a w) : ∀ (p : Pl) (L : Fr) (F : List Chunk) (a : Act) (w : World),
    LstT P N M w0 ops K p L F → Holds N a L → Mem M w0 w F → wpHeadT P ops.toArray T p a w
  | .nil, _, _, _, _, h, hl, hm => hT _ _ _ _ hl hm h
  | .one i r, L, F, a, w, h, hl, hm => by
    simp only [LstT] at h
    cases ho : nth ops i with
    | none => simp [ho] at h
    | some o =>
      simp only [ho] at h
      exact h.head (by rw [← nth_eq]; exact ho) hl hm (fun a w L F hl hm hk => LstT.head hT r L F a w hk hl hm)
  | .two i r j s, L, F, a, w, h, hl, hm => by
    simp only [LstT] at h
    obtain ⟨h1, h2⟩ := h
    constructor
    · cases ho : nth ops i with
      | none => simp [ho] at h1
      | some o =>
        simp only [ho] at h1
        exact h1.head (by rw [← nth_eq]; exact ho) hl hm (fun a w L F hl hm hk => LstT.head hT r L F a w hk hl hm)
    · cases ho : nth ops j with
      | none => simp [ho] at h2
      | some o =>
        simp only [ho] at h2
        exact h2.head (by rw [← nth_eq]; exact ho) hl hm (fun a w L F hl hm hk => LstT.head hT s L F a w hk hl hm)
/-! ### append that never writes what was there -/
theorem eAppX {A B : Option Addr} {n m c cap : Nat} {vs ws : List Value} (ho : o.op = .call { callee := .builtin .append, args := #[x, y], argTypes := #[t, t] }) {d : Nat} (hdd : o.dst = some d) (hd : Nat.ble (d + 1) N.n = true) [h : SlTy P t e z bytes]
    (hx : ev L x = some (.slice A n cap)) (hy : ev L y = some (.slice B m c)) [hp : PkOw F A e cap vs F'] [hr : Rd F B ws] (hn : n = vs.length) (hm' : m = ws.length) (hcap : cap = vs.length) (hone : ∀ u ∈ ws, u.oneCell' = true) (hb : (vs.length + ws.length) * bytes ≤ 140737488355328) (hlen : vs.length + ws.length ≤ 9223372036854775807)
    (hK : ∀ (A' : Option Addr) (cap' : Nat), K (addL d (.slice A' (vs.length + ws.length) cap') L) (ow A' e cap' (vs ++ ws) :: F')) : Eff P N M w0 b o L F K := fun a w hl hm => by
  subst hn
  subst hm'
  subst hcap
  obtain ⟨i, hi, hz, hs, hby⟩ := info_parts h.inf
  have hmp := hm.perm hp.perm
  have hown : w.ownsRow 0 e 1 (.slice A vs.length vs.length) vs.length vs := hmp.sat _ (List.mem_cons_self ..)
  have hcells := hr.rd M w0 w hm
  have key : ∃ (A' : Option Addr) (cap' : Nat) (w' : World), (Builtin.append_ #[t, t] o.type #[.slice A vs.length vs.length, .slice B ws.length c]).run P w = .ok (.slice A' (vs.length + ws.length) cap') w' ∧
      w'.ownsRow 0 e 1 (.slice A' (vs.length + ws.length) cap') (vs.length + ws.length) (vs ++ ws) ∧ Ext w w' ∧ (∀ ad, A' = some ad → A = some ad ∨ ad.block = w.heap.size) := by
    by_cases hws : ws = []
    · subst hws
      refine ⟨A, vs.length, w, ?_, by simpa using hown, Ext.refl w, fun ad h => .inl h⟩
      have hl0 : ∀ ad : Addr, (loadCells ad 0).run P w = .ok #[] w := fun ad => rfl
      cases B <;> cases A <;> simp [Builtin.append_, run_underlying h.und, sizeOf, typeInfo, hi, Builtin.lenOf, Builtin.firstCells, hl0, storeCells]
    · have hwp : 0 < ws.length := List.length_pos_iff.2 hws
      cases B with
      | none => obtain ⟨ad, h1, _⟩ := hcells 0 hwp; cases h1
      | some bd =>
        have hnews : ∀ (j : Nat) u, ws[j]? = some u → w.cell? (bd.add j) = some u := fun j u hu => by
          obtain ⟨hj, rfl⟩ := List.getElem?_eq_some_iff.1 hu
          obtain ⟨ad', h1, h2⟩ := hcells j hj
          simp only [Option.some.injEq] at h1
          subst h1
          exact h2
        obtain ⟨v', w', h1, h2, h3, h4, h5⟩ := run_append_own_at (P := P) w 0 t o.type e i z 1 bytes h.und hi hz hs hby (by rw [h.one]; rfl) (by omega) (.slice A vs.length vs.length) vs.length vs hown bd ws.length c ws (by omega) hnews hone (by simp only [maxLen]; omega) (by simpa using hb) (Nat.zero_le _)
        -- where it lies
        have hnew : ∃ cap' w'', (Builtin.append_ #[t, t] o.type #[.slice A vs.length vs.length, .slice (some bd) ws.length c]).run P w = .ok (.slice (some ⟨w.heap.size, 0, none⟩) (vs.length + ws.length) cap') w'' ∧ Ext w w'' := by
          cases A with
          | none =>
            have hv : vs = [] := by
              rcases hown.2 with ⟨_, h0⟩ | ⟨g, cp, cur, hv2, _⟩
              · exact List.eq_nil_of_length_eq_zero h0
              · cases hv2
            subst hv
            have hr := run_append_nil (P := P) w t o.type e i z h.und hi hz bd ws.length c ws (by rw [hs]; omega) hnews hwp (by omega) (by rw [hby]; simp at hb; omega)
            refine ⟨_, _, by simpa using hr, ?_⟩
            exact ((Below.refl _ _).drew).alloc (Nat.le_refl _) _
          | some ad =>
            have holds : ∀ j u, vs[j]? = some u → w.cell? (ad.add j) = some u := fun j u hu => by
              obtain ⟨hj, rfl⟩ := List.getElem?_eq_some_iff.1 hu
              obtain ⟨ad', h1, h2⟩ := ow_reads hown j hj
              simp only [Option.some.injEq] at h1
              subst h1
              exact h2
            have hr := run_append_grow (P := P) w t o.type e i z h.und hi hz ad vs.length vs.length vs (by rw [hs]; omega) holds bd ws.length c ws (by rw [hs]; omega) hnews (by omega) (by omega) (by rw [hby]; exact growslice_fits (by omega) hb)
            refine ⟨_, _, hr, ?_⟩
            exact ((Below.refl _ _).drew).alloc (Nat.le_refl _) _
        obtain ⟨cap', w'', h6, h7⟩ := hnew
        rw [h1] at h6
        simp only [Result.ok.injEq] at h6
        obtain ⟨rfl, rfl⟩ := h6
        exact ⟨_, _, w', h1, h2, h7, fun ad had => .inr (by simp only [Option.some.injEq] at had; rw [← had])⟩
  obtain ⟨A', cap', w', h1, h2, h3, h4⟩ := key
  have hrun : (execOp a.eval o).run P w = .ok (.value (.slice A' (vs.length + ws.length) cap')) w' := by
    simp only [execOp, ho, resolve, invoke, builtin, Sem.run_bind, Sem.run_pure, Result.andThen_ok, List.map_toArray, List.map_cons, List.map_nil, hl.eval hx, hl.eval hy, h1]
  have hlen' : (vs ++ ws).length = vs.length + ws.length := List.length_append
  simp only [Oper.wp, hrun, Oper.upon_value]
  refine ⟨fun _ => h3, _, _, hl.add hdd hd _, ?_, hK A' cap'⟩
  refine hmp.change (by exact trivial) ⟨h3.os, h3.tape, h3.output, h3.size, fun k hk hc => h3.block k hk⟩ (by show w'.ownsRow 0 e 1 (.slice A' (vs ++ ws).length cap') (vs ++ ws).length (vs ++ ws); rw [hlen']; exact h2) (fun b' hb' => ?_)
  obtain ⟨ad, rfl, rfl⟩ := hb'
  rcases h4 ad rfl with h5 | h5
  · exact .inl ⟨ad, h5, rfl⟩
  · exact .inr (by omega)
theorem eAppXI {A B : Option Addr} {n m c cap : Nat} {xs ys : List Int} (ho : o.op = .call { callee := .builtin .append, args := #[x, y], argTypes := #[t, t] }) {d : Nat} (hdd : o.dst = some d) (hd : Nat.ble (d + 1) N.n = true) [h : SlTy P t e z 8]
    (hx : ev L x = some (.slice A n cap)) (hy : ev L y = some (.slice B m c)) [hp : PkOw F A e cap (ints xs) F'] [hr : Rd F B (ints ys)] (hn : n = xs.length) (hm' : m = ys.length) (hcap : cap = xs.length) (hb : xs.length + ys.length ≤ 17592186044416)
    (hK : ∀ (A' : Option Addr) (cap' : Nat), K (addL d (.slice A' (xs ++ ys).length cap') L) (ow A' e cap' (ints (xs ++ ys)) :: F')) : Eff P N M w0 b o L F K :=
  eAppX ho hdd hd (h := h) hx hy (hp := hp) (hr := hr) (by simpa using hn) (by simpa using hm') (by simpa using hcap) (ints_oneCell .i64 ys) (by simp only [ints_length]; omega) (by simp only [ints_length]; omega) (fun A' cap' => by
    have := hK A' cap'
    rw [ints_append, List.length_append] at this
    simpa using this)

theorem all1 (xs : List Int) : (ints xs).all (·.oneCell') = true := List.all_eq_true.2 (fun u hu => ints_oneCell .i64 xs u hu)

/-! ### copy -/
/-- Where a slice begins behind a cut at its low end. -/
def cutA (A : Option Addr) (i c : Nat) : Option Addr := if i < c then shA A i else A
theorem rCut {A : Option Addr} {n c : Nat} {i : Int} (ho : o.op = .slice t x (some y) none none) [h : SlTy P t e z bytes] (hx : ev L x = some (.slice A n c)) (hy : ev L y = some (.int .i64 i)) (h0 : 0 ≤ i) (h1 : i ≤ n) (h2 : n ≤ c) : Stl P N M w0 o L F (.slice (cutA A i.toNat c) (n - i.toNat) (c - i.toNat)) := fun a w hl _ => by
  simp only [execOp, ho, hl.eval hx, Option.map_none, Option.map_some, hl.eval hy, Instr.sliceAt, Sem.run_bind, run_und h.und, Result.andThen_ok]
  simp only [Instr.slice, Instr.sliceBounds, Instr.sliceBound, asIntOf, Sem.run_bind, Sem.run_pure, Result.andThen_ok, run_und h.und, run_size1 h.size, h0, h1]
  by_cases hc : c = i.toNat
  · have : ¬ i.toNat < c := by omega
    simp [cutA, this, hc]
  · have h3 : i.toNat < c := by omega
    simp [cutA, h3, hc, shA]
theorem eCopy {A B D : Option Addr} {lo m dl dc sc cap : Nat} {vs ws : List Value} (ho : o.op = .call { callee := .builtin .copy, args := #[x, y], argTypes := #[t, t'] }) {d : Nat} (hdd : o.dst = some d) (hd : Nat.ble (d + 1) N.n = true) [h : SlTy P t e z bytes]
    (hx : ev L x = some (.slice D dl dc)) (hD : D = cutA A lo cap) (hy : ev L y = some (.slice B m sc)) [hp : PkOw F A e cap vs F'] [hr : Rd F B ws] (hlo : lo + dl ≤ vs.length) (hm' : m ≤ ws.length) (hone : ws.all (·.oneCell') = true)
    (hK : K (addL d (.int .i64 (min m dl : Nat)) L) (ow A e cap (vs.take lo ++ ws.take (min m dl) ++ vs.drop (lo + min m dl)) :: F')) : Eff P N M w0 false o L F K := fun a w hl hm => by
  have hmp := hm.perm hp.perm
  have hown : w.ownsRow 0 e 1 (.slice A vs.length cap) vs.length vs := hmp.sat _ (List.mem_cons_self ..)
  have hcells := hr.rd M w0 w hm
  have hsz := h.size
  have hlenc : (vs.take lo ++ ws.take (min m dl) ++ vs.drop (lo + min m dl)).length = vs.length := by
    simp only [List.length_append, List.length_take, List.length_drop]; omega
  by_cases h0 : min m dl = 0
  · have hrun0 := run_copy_none (P := P) w t t' o.type e D B dl dc m sc h.und hsz (by simpa [Nat.min_def] using h0)
    have hrun : (execOp a.eval o).run P w = .ok (.value (goInt 0)) w := by
      simp only [execOp, ho, resolve, invoke, builtin, Sem.run_bind, Sem.run_pure, Result.andThen_ok, List.map_toArray, List.map_cons, List.map_nil, hl.eval hx, hl.eval hy, hrun0]
    simp only [Oper.wp, hrun, Oper.upon_value]
    rw [h0] at hK
    refine ⟨fun hc => absurd hc (by simp), _, _, hl.add hdd hd _, hmp, ?_⟩
    simpa [goInt] using hK
  · have hvl : 0 < vs.length := by omega
    rcases hown.2 with ⟨_, h1⟩ | ⟨g, cp, cur, hv2, hbg, hg, hnc, hcm, hcs, htake⟩
    · omega
    · simp only [Value.slice.injEq] at hv2
      obtain ⟨rfl, _, rfl⟩ := hv2
      have hcut : D = some ⟨g, lo, none⟩ := by
        rw [hD, cutA, if_pos (by omega)]
        simp [shA, add_new]
      have hB : ∃ bd, B = some bd := by
        obtain ⟨ad, h1, _⟩ := hcells 0 (by omega)
        exact ⟨ad, h1⟩
      obtain ⟨bd, rfl⟩ := hB
      have hcsl : (ws.take (min m dl)).length = min m dl := by rw [List.length_take]; omega
      have hrun0 := run_copy_row (P := P) w t t' o.type e g lo dl dc bd m sc cur e (ws.take (min m dl)) h.und hsz hg (by rw [hcsl]) (fun j u hu => by
        obtain ⟨hj, rfl⟩ := List.getElem?_eq_some_iff.1 hu
        rw [hcsl] at hj
        obtain ⟨ad', h1, h2⟩ := hcells j (by omega)
        simp only [Option.some.injEq] at h1
        subst h1
        rw [h2]
        simp) (by rw [hcsl, hcs]; omega) (fun u hu => List.all_eq_true.1 hone u (List.mem_of_mem_take hu))
      rw [← hcut] at hrun0
      have hrun : (execOp a.eval o).run P w = .ok (.value (goInt (ws.take (min m dl)).length)) (w.setRow g (cur.toList.take lo ++ ws.take (min m dl) ++ cur.toList.drop (lo + (ws.take (min m dl)).length)).toArray) := by
        simp only [execOp, ho, resolve, invoke, builtin, Sem.run_bind, Sem.run_pure, Result.andThen_ok, List.map_toArray, List.map_cons, List.map_nil, hl.eval hx, hl.eval hy, hrun0]
      simp only [Oper.wp, hrun, Oper.upon_value]
      rw [hcsl]
      refine ⟨fun hc => absurd hc (by simp), _, _, hl.add hdd hd _, hmp.change (by exact trivial) (d := ow (some ⟨g, 0, none⟩) e cap (vs.take lo ++ ws.take (min m dl) ++ vs.drop (lo + min m dl))) ⟨rfl, rfl, rfl, by simp [World.setRow], fun k hk hc => setRow_other w g k _ (fun e => hc ⟨_, rfl, e.symm⟩)⟩ ?_ (fun b' hb' => .inl hb'), by simpa [goInt] using hK⟩
      show World.ownsRow _ 0 e 1 (.slice (some ⟨g, 0, none⟩) (vs.take lo ++ ws.take (min m dl) ++ vs.drop (lo + min m dl)).length cap) (vs.take lo ++ ws.take (min m dl) ++ vs.drop (lo + min m dl)).length (vs.take lo ++ ws.take (min m dl) ++ vs.drop (lo + min m dl))
      rw [hlenc]
      have hcurl : cur.toList.length = cap := by rw [Array.length_toList]; omega
      refine ⟨by rw [hlenc]; omega, .inr ⟨g, cap, _, rfl, hbg, setRow_heap w g cur _ e _ hg, hnc, hcm, ?_, ?_⟩⟩
      · simp only [List.size_toArray, List.length_append, List.length_take, List.length_drop, hcurl]
        omega
      · have hvs : vs = cur.toList.take vs.length := by rw [show vs.length = vs.length * 1 by omega]; exact htake.symm
        apply List.ext_getElem?
        intro k
        have hk : ∀ k, k < vs.length → vs[k]? = cur.toList[k]? := fun k hk => by
          conv => lhs; rw [hvs]
          rw [List.getElem?_take, if_pos hk]
        by_cases hkl : k < vs.length * 1
        · simp only [List.getElem?_take, List.getElem?_append, List.length_append, List.length_take, List.length_drop, List.getElem?_drop, hcurl]
          rw [if_pos hkl]
          rw [show min lo cap = lo by omega, show min (min m dl) ws.length = min m dl by omega, show min lo vs.length = lo by omega]
          by_cases h1 : k < lo + min m dl
          · rw [if_pos h1, if_pos h1]
            by_cases h2 : k < lo
            · rw [if_pos h2, if_pos h2, if_pos h2, if_pos h2]; exact (hk k (by omega)).symm
            · rw [if_neg h2, if_neg h2]
          · rw [if_neg h1, if_neg h1]
            have := hk (lo + min m dl + (k - (lo + min m dl))) (by omega)
            exact this.symm
        · rw [List.getElem?_eq_none (by rw [List.length_take]; omega), List.getElem?_eq_none (by rw [hlenc]; omega)]

theorem eCopyI {A B D : Option Addr} {lo m dl dc sc cap : Nat} {xs ys : List Int} (ho : o.op = .call { callee := .builtin .copy, args := #[x, y], argTypes := #[t, t'] }) {d : Nat} (hdd : o.dst = some d) (hd : Nat.ble (d + 1) N.n = true) [h : SlTy P t e z bytes]
    (hx : ev L x = some (.slice D dl dc)) (hD : D = cutA A lo cap) (hy : ev L y = some (.slice B m sc)) [hp : PkOw F A e cap (ints xs) F'] [hr : Rd F B (ints ys)] (hlo : lo + dl ≤ xs.length) (hm' : m ≤ ys.length)
    (hK : K (addL d (.int .i64 (min m dl : Nat)) L) (ow A e cap (ints (xs.take lo ++ ys.take (min m dl) ++ xs.drop (lo + min m dl))) :: F')) : Eff P N M w0 false o L F K :=
  eCopy ho hdd hd (h := h) hx hD hy (hp := hp) (hr := hr) (by simpa using hlo) (by simpa using hm') (all1 ys) (by simpa [ints] using hK)

/-! ### nil -/
theorem rNilS {A : Option Addr} {n c : Nat} (ho : o.op = .binOp .eql t x y t') [h : SlTy P t e z bytes] (hx : ev L x = some (.slice A n c)) (hy : ev L y = some (.slice none 0 0)) : Stl P N M w0 o L F (.bool A.isNone) := fun a w hl _ => by
  have h1 : (Op.equal t (.slice A n c) (.slice none 0 0)).run P w = .ok A.isNone w := by
    exact run_equal_slice_nil w t e A n c h.und
  simp [execOp, ho, hl.eval hx, hl.eval hy, eqGuard, binOp, h1]
end

section
variable {P : Program} {N : NR} {M : Nat → Prop} {w0 : World} {L : Fr} {F : List Chunk} {ops : List Oper}
theorem tr_some {A : Option Addr} {v : Value} {vs : List Value} {c : Code} {Q : Exit → Fr → List Chunk → Prop} [hr : Rd F A (v :: vs)] (h : A.isNone = false → Tr P N M w0 c L F Q) : Tr P N M w0 c L F Q := fun ds M1 w1 hb a w hl hm => by
  refine h ?_ ds M1 w1 hb a w hl hm
  obtain ⟨ad, rfl, _⟩ := hr.rd _ _ w hm 0 (by simp)
  rfl
theorem tr_tree (p : Pl) (tls : List Nat) {id : Nat} {Q : Exit → Fr → List Chunk → Prop} (hm : P.follows .mixedOrders = true) (hB : regionOkT ops.toArray p tls = true)
    (h : ∀ ds M1 w1, LstT P ⟨N.n, ds⟩ M1 w1 ops (LstI P ⟨N.n, ds⟩ M1 w1 false ops (Q .normal) tls) p L F) (hd : noDefer ops = true := by rfl) : Tr P N M w0 (.region id ops.toArray true) L F Q := fun ds M1 w1 hb a w hl hmem => by
  refine wpIn_any_nrm hm (by simpa using hd) (wpAny_tree p tls hB ?_)
  exact LstT.head (fun a w L F hl hm hk => LstI.tail (Q := nrm (Fin' N M w0 Q)) (fun a w L F h1 h2 h3 => ⟨rfl, ds, M1, w1, hb, L, F, h1, h2, h3⟩) tls L F a w hk hl hm) p L F a _ (h ds M1 w1) hl (hmem.ext (drew_ext w))

/-- What stands between two parts of the code. -/
theorem tr_mid {S : Type} (Lf : S → Fr) (Ff : S → List Chunk) {c d : Code} {Q : Exit → Fr → List Chunk → Prop} (h : Tr P N M w0 c L F (fun e L' F' => e = .normal ∧ ∃ s, FSub L' (Lf s) ∧ CSub F' (Ff s)))
    (k : ∀ s, Tr P N M w0 d (Lf s) (Ff s) Q) : Tr P N M w0 (.seq c d) L F Q := by
  refine tr_seq (h.mono fun e L' F' hq => ?_)
  obtain ⟨rfl, s, h1, h2⟩ := hq
  show Tr P N M w0 d L' F' Q
  intro ds M1 w1 hb a w hl hm
  exact k s ds M1 w1 hb a w (hl.sub h1) (h2.mem hm)
end
end Go.Proofs.Ytjmojhflnjbgaaa

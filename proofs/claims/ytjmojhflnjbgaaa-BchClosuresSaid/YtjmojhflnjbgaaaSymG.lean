/-
  NEW SLICES, APPENDS, STORES, CUTS. One sentence: the rules for make, literals, append, stores into what is the walk's own, and cuts of slices.
  Conditions: none. Plain theorems on the model's own words; no program is named here.
-/
import Derived.Test.YtjmojhflnjbgaaaSymF
namespace Go.Proofs.Ytjmojhflnjbgaaa
open Go.RowKit

/-! short names, for what a test says -/
theorem zb1 {p : Prop} [Decidable p] : (decide p = true) = p := decide_eq_true_eq
theorem zb2 {p : Prop} [Decidable p] : (decide p = false) = ¬ p := propext decide_eq_false_iff_not
theorem zb3 {a b : Bool} : ((a || b) = true) = (a = true ∨ b = true) := Bool.or_eq_true a b
theorem zb4 {a b : Bool} : ((a && b) = true) = (a = true ∧ b = true) := Bool.and_eq_true a b
theorem zb5 {a b : Bool} : ((a || b) = false) = (a = false ∧ b = false) := propext (Bool.or_eq_false_iff)
theorem zb6 {a b : Bool} : ((a && b) = false) = (a = false ∨ b = false) := propext (Bool.and_eq_false_iff)
theorem zb7 {a : Bool} : ((!a) = true) = (a = false) := propext (by simp)
theorem zb8 {a : Bool} : ((!a) = false) = (a = true) := propext (by simp)
theorem zb9 {a b : Bool} : ((a == b) = true) = (a = b) := propext (by simp)
theorem zb10 {p : Prop} : (¬ ¬ p) = p := propext Classical.not_not

section
variable {P : Program} {N : NB} {M : Nat → Prop} {w0 : World} {L : Fr} {F F' : List Chunk} {K : Fr → List Chunk → Prop} {b : Bool} {o : Oper} {v z : Value} {x y : Operand} {t t' e : TypeId} {bytes : Nat}

theorem ext_grown {w w' : World} (h : w.grownBy w' none) : Ext w w' := ⟨h.os, h.tape, h.output, h.size, fun k hk => h.block k hk (by simp)⟩
theorem new_ow {w w' : World} {vs : List Value} {cap : Nat} (hx : Ext w w') (hm : Mem M w0 w F) (h : w'.ownsRow 0 e 1 (.slice (some ⟨w.heap.size, 0, none⟩) vs.length cap) vs.length vs) : Mem M w0 w' (ow (some ⟨w.heap.size, 0, none⟩) e cap vs :: F) :=
  hm.add (G := [ow (some ⟨w.heap.size, 0, none⟩) e cap vs]) hx (fun c hc => by
    simp only [List.mem_singleton] at hc
    subst hc
    refine ⟨h, fun b hb => ?_⟩
    obtain ⟨ad, h1, h2⟩ := hb
    simp only [Option.some.injEq] at h1
    subst h1
    simp only at h2
    omega) (List.pairwise_singleton _ _)

theorem eMake {n : Int} (ho : o.op = .makeSlice t x y) {d : Nat} (hdd : o.dst = some d) (hd : Nat.ble (d + 1) N.n = true) [h : SlTy P t e z bytes] (hx : ev L x = some (.int .i64 n)) (hy : ev L y = some (.int .i64 n)) (h0 : 0 ≤ n) (hb : bytes * n.toNat ≤ 281474976710656) (h63 : n ≤ 9223372036854775807)
    (hK : ∀ A : Option Addr, K (addL d (.slice A n.toNat n.toNat) L) (ow A e n.toNat (List.replicate n.toNat z) :: F)) : Eff P N M w0 b o L F K := eff_value hdd hd fun a w hl hm => by
  obtain ⟨i, hi, hz, hs, hby⟩ := info_parts h.inf
  obtain ⟨k, rfl⟩ := Int.eq_ofNat_of_zero_le h0
  simp only [Int.toNat_natCast] at hb hK
  obtain ⟨w', h1, h2, h3⟩ := run_make_full (P := P) w 0 t e i z 1 h.und hi hz hs .i64 .i64 k (by rw [hby]; exact hb) (by simp only [maxLen]; omega) (Nat.zero_le _)
  have hx' := ext_grown h3
  rw [h.one, Nat.mul_one, toList_madeCells_one] at h2
  have hm' := new_ow (e := e) (vs := List.replicate k z) (cap := k) hx' hm (by simpa using h2)
  refine ⟨_, w', ?_, hx', _, hm', hK _⟩
  simp only [execOp, ho, hl.eval hx, hl.eval hy, Sem.run_bind, h1, Result.andThen_ok, Sem.run_pure]
theorem replicate_ints (n : Nat) : List.replicate n (Value.int .i64 0) = ints (List.replicate n 0) := by simp [ints]
theorem replicate_bools (n : Nat) : List.replicate n (Value.bool false) = bools (List.replicate n false) := by simp [bools]
theorem eMakeI {n : Int} (ho : o.op = .makeSlice t x y) {d : Nat} (hdd : o.dst = some d) (hd : Nat.ble (d + 1) N.n = true) [h : SlTy P t e (.int .i64 0) bytes] (hx : ev L x = some (.int .i64 n)) (hy : ev L y = some (.int .i64 n)) (h0 : 0 ≤ n) (hb : bytes * n.toNat ≤ 281474976710656) (h63 : n ≤ 9223372036854775807)
    (hK : ∀ A : Option Addr, K (addL d (.slice A n.toNat n.toNat) L) (ow A e n.toNat (ints (List.replicate n.toNat 0)) :: F)) : Eff P N M w0 b o L F K := eMake ho hdd hd (h := h) hx hy h0 hb h63 (fun A => by rw [replicate_ints]; exact hK A)
theorem eMakeB {n : Int} (ho : o.op = .makeSlice t x y) {d : Nat} (hdd : o.dst = some d) (hd : Nat.ble (d + 1) N.n = true) [h : SlTy P t e (.bool false) bytes] (hx : ev L x = some (.int .i64 n)) (hy : ev L y = some (.int .i64 n)) (h0 : 0 ≤ n) (hb : bytes * n.toNat ≤ 281474976710656) (h63 : n ≤ 9223372036854775807)
    (hK : ∀ A : Option Addr, K (addL d (.slice A n.toNat n.toNat) L) (ow A e n.toNat (bools (List.replicate n.toNat false)) :: F)) : Eff P N M w0 b o L F K := eMake ho hdd hd (h := h) hx hy h0 hb h63 (fun A => by rw [replicate_bools]; exact hK A)

theorem run_lit (w : World) {k : Nat} {pv : Array (Nat × Value)} {vs : List Value} (h : SlTy P t e z bytes) (hk0 : 0 < k) (hk : k ≤ 1000)
    (hf : Instr.fill (fun i => some (i * 1, 1)) ((Array.range (k * 1)).map (fun j => (#[z] : Array Value)[j % (#[z] : Array Value).size]!)) pv.toList = some vs.toArray) :
    (Instr.buildSlice t k pv).run P w = .ok (.slice (some ⟨w.heap.size, 0, none⟩) k k) (w.alloc (.cells vs.toArray e)) := by
  have hz : (zeroValue e).run P w = .ok z w := by
    obtain ⟨i, hi, hz, _⟩ := info_parts h.inf
    simp [zeroValue, typeInfo, hi, hz]
  have hsz := run_size1 h.size w
  have h1 : ¬ (k * 1 > 2 ^ 24) := by omega
  have h2 : ¬ (k * 1 = 0) := by omega
  unfold Instr.buildSlice
  simp only [Sem.run_bind, run_und h.und, Result.andThen_ok, hsz, h1, if_false, h2, hz, h.one, Sem.run_pure, hf]
  simp [newRow, newObj, Sem.run]
theorem range0 : (Array.range 0) = #[] := rfl
theorem run_lit0 (w : World) (h : SlTy P t e z bytes) : (Instr.buildSlice t 0 #[]).run P w = .ok (.slice (some ⟨w.heap.size, 0, none⟩) 0 0) (w.alloc (.cells #[] e)) := by
  have hsz := run_size1 h.size w
  unfold Instr.buildSlice
  simp only [Sem.run_bind, run_und h.und, Result.andThen_ok, hsz]
  simp [newRow, newObj, Sem.run, Instr.fill, range0]

theorem eLit_of {k : Nat} {parts : Array (Nat × Operand)} {vs : List Value} (ho : o.op = .buildSlice t k parts) {d : Nat} (hdd : o.dst = some d) (hd : Nat.ble (d + 1) N.n = true) (hvs : vs.length = k) (hk : k ≤ 1000)
    (hrun : ∀ a w, Holds N a L → (Instr.buildSlice t k (parts.map fun (i, x) => (i, a.eval x))).run P w = .ok (.slice (some ⟨w.heap.size, 0, none⟩) k k) (w.alloc (.cells vs.toArray e)))
    (hK : ∀ A : Option Addr, K (addL d (.slice A k k) L) (ow A e k vs :: F)) : Eff P N M w0 b o L F K := eff_value hdd hd fun a w hl hm => by
  refine ⟨_, w.alloc (.cells vs.toArray e), ?_, alloc_ext w _, _, new_ow (e := e) (vs := vs) (cap := k) (alloc_ext w _) hm ?_, hK _⟩
  · have h1 := hrun a w hl
    simp only [execOp, ho, Sem.run_bind, h1, Result.andThen_ok, Sem.run_pure]
  · have := World.ownsRow_lit (base := 0) (e := e) (size := 1) w vs.toArray k (Nat.zero_le _) (by simp only [maxLen]; omega) (by simpa using hvs)
    rw [hvs]
    simpa using this

theorem eLit0 (ho : o.op = .buildSlice t 0 #[]) {d : Nat} (hdd : o.dst = some d) (hd : Nat.ble (d + 1) N.n = true) [h : SlTy P t e z bytes] (hK : ∀ A : Option Addr, K (addL d (.slice A 0 0) L) (ow A e 0 [] :: F)) : Eff P N M w0 b o L F K :=
  eLit_of (e := e) (vs := []) ho hdd hd rfl (by omega) (fun a w _ => by simpa using run_lit0 (P := P) (t := t) w h) hK
theorem eLit1 {v0 : Value} (ho : o.op = .buildSlice t 1 #[(0, x)]) {d : Nat} (hdd : o.dst = some d) (hd : Nat.ble (d + 1) N.n = true) [h : SlTy P t e z bytes] (hx : ev L x = some v0) (hv : v0.cells = #[v0]) (hK : ∀ A : Option Addr, K (addL d (.slice A 1 1) L) (ow A e 1 [v0] :: F)) : Eff P N M w0 b o L F K :=
  eLit_of (e := e) (vs := [v0]) ho hdd hd rfl (by omega) (fun a w hl => by
    refine run_lit w h (by omega) (by omega) ?_
    simp [hl.eval hx, Instr.fill, hv, Array.range_succ, range0]) hK
theorem eLit2 {v0 v1 : Value} (ho : o.op = .buildSlice t 2 #[(0, x), (1, y)]) {d : Nat} (hdd : o.dst = some d) (hd : Nat.ble (d + 1) N.n = true) [h : SlTy P t e z bytes] (hx : ev L x = some v0) (hv : v0.cells = #[v0]) (hy : ev L y = some v1) (hv1 : v1.cells = #[v1]) (hK : ∀ A : Option Addr, K (addL d (.slice A 2 2) L) (ow A e 2 [v0, v1] :: F)) : Eff P N M w0 b o L F K :=
  eLit_of (e := e) (vs := [v0, v1]) ho hdd hd rfl (by omega) (fun a w hl => by
    refine run_lit w h (by omega) (by omega) ?_
    simp [hl.eval hx, hl.eval hy, Instr.fill, hv, hv1, Array.range_succ, range0]) hK

theorem eLit1I {n0 : Int} (ho : o.op = .buildSlice t 1 #[(0, x)]) {d : Nat} (hdd : o.dst = some d) (hd : Nat.ble (d + 1) N.n = true) [h : SlTy P t e z bytes] (hx : ev L x = some (.int .i64 n0)) (hK : ∀ A : Option Addr, K (addL d (.slice A 1 1) L) (ow A e 1 (ints [n0]) :: F)) : Eff P N M w0 b o L F K :=
  eLit1 ho hdd hd (h := h) hx rfl hK
theorem eLit2I {n0 n1 : Int} (ho : o.op = .buildSlice t 2 #[(0, x), (1, y)]) {d : Nat} (hdd : o.dst = some d) (hd : Nat.ble (d + 1) N.n = true) [h : SlTy P t e z bytes] (hx : ev L x = some (.int .i64 n0)) (hy : ev L y = some (.int .i64 n1)) (hK : ∀ A : Option Addr, K (addL d (.slice A 2 2) L) (ow A e 2 (ints [n0, n1]) :: F)) : Eff P N M w0 b o L F K :=
  eLit2 ho hdd hd (h := h) hx rfl hy rfl hK
theorem eLit0I (ho : o.op = .buildSlice t 0 #[]) {d : Nat} (hdd : o.dst = some d) (hd : Nat.ble (d + 1) N.n = true) [h : SlTy P t e z bytes] (hK : ∀ A : Option Addr, K (addL d (.slice A 0 0) L) (ow A e 0 (ints []) :: F)) : Eff P N M w0 b o L F K := eLit0 ho hdd hd (h := h) hK
theorem nil_mem (e : TypeId) {w : World} (hm : Mem M w0 w F) : Mem M w0 w (ow none e 0 [] :: F) := by
  refine ⟨hm.upd, fun c hc => ?_, List.pairwise_cons.2 ⟨fun c _ _ b' hb' => ?_, hm.sep⟩, fun c hc hex b' hb' => ?_⟩
  · rcases List.mem_cons.1 hc with rfl | hc
    · exact World.ownsRow_nil _ _ _ _
    · exact hm.sat c hc
  · obtain ⟨ad, h1, _⟩ := hb'; cases h1
  · rcases List.mem_cons.1 hc with rfl | hc
    · obtain ⟨ad, h1, _⟩ := hb'; cases h1
    · exact hm.own c hc hex b' hb'
/-- A nil slice is the walk's own. -/
theorem tr_nil {N : NR} (e : TypeId) {c : Code} {Q : Exit → Fr → List Chunk → Prop} (h : Tr P N M w0 c L (ow none e 0 [] :: F) Q) : Tr P N M w0 c L F Q := fun ds M1 w1 hb a w hl hm => h ds M1 w1 hb a w hl (nil_mem e hm)

theorem tr_nilI {N : NR} (e : TypeId) {c : Code} {Q : Exit → Fr → List Chunk → Prop} (h : Tr P N M w0 c L (ow none e 0 (ints []) :: F) Q) : Tr P N M w0 c L F Q := tr_nil e h

theorem int_cells (k : IntKind) (n : Int) : (Value.int k n).cells = #[.int k n] := rfl

/-- append, onto a slice of the walk's own. -/
theorem eApp {A B : Option Addr} {n m c cap : Nat} {vs ws : List Value} (ho : o.op = .call { callee := .builtin .append, args := #[x, y], argTypes := #[t, t] }) {d : Nat} (hdd : o.dst = some d) (hd : Nat.ble (d + 1) N.n = true) [h : SlTy P t e z bytes]
    (hx : ev L x = some (.slice A n cap)) (hy : ev L y = some (.slice B m c)) [hp : PkOw F A e cap vs F'] [hr : Rd F B ws] (hn : n = vs.length) (hm' : m = ws.length) (hone : ∀ u ∈ ws, u.oneCell' = true) (hb : (vs.length + ws.length) * bytes ≤ 140737488355328) (hlen : vs.length + ws.length ≤ 9223372036854775807)
    (hK : ∀ (A' : Option Addr) (cap' : Nat), K (addL d (.slice A' (vs.length + ws.length) cap') L) (ow A' e cap' (vs ++ ws) :: F')) : Eff P N M w0 false o L F K := fun a w hl hm => by
  subst hn
  subst hm'
  obtain ⟨i, hi, hz, hs, hby⟩ := info_parts h.inf
  have hmp := hm.perm hp.perm
  have hown : w.ownsRow 0 e 1 (.slice A vs.length cap) vs.length vs := hmp.sat _ (List.mem_cons_self ..)
  have hcells := hr.rd M w0 w hm
  have hlen' : (vs ++ ws).length = vs.length + ws.length := List.length_append
  have key : ∃ (A' : Option Addr) (cap' : Nat) (w' : World), (Builtin.append_ #[t, t] o.type #[.slice A vs.length cap, .slice B ws.length c]).run P w = .ok (.slice A' (vs.length + ws.length) cap') w' ∧
      w'.ownsRow 0 e 1 (.slice A' (vs.length + ws.length) cap') (vs.length + ws.length) (vs ++ ws) ∧ w.grownBy w' (Value.slice A vs.length cap).ownBlock ∧ (∀ ad, A' = some ad → A = some ad ∨ ad.block = w.heap.size) := by
    have shape : ∀ (v' : Value) (w' : World), w'.ownsRow 0 e 1 v' (vs.length + ws.length) (vs ++ ws) → (v'.ownBlock = (Value.slice A vs.length cap).ownBlock ∨ v'.ownBlock = some w.heap.size) →
        ∃ A' cap', v' = .slice A' (vs.length + ws.length) cap' ∧ (∀ ad, A' = some ad → A = some ad ∨ ad.block = w.heap.size) := by
      intro v' w' h1 h2
      rcases h1.2 with ⟨rfl, h0⟩ | ⟨g, cp, cur, rfl, _⟩
      · exact ⟨none, 0, by rw [h0], fun ad h => by cases h⟩
      · refine ⟨_, _, rfl, fun ad had => ?_⟩
        simp only [Option.some.injEq] at had
        subst had
        rcases h2 with h2 | h2
        · left
          rcases hown.2 with ⟨h3, _⟩ | ⟨g', cp', cur', h3, _⟩
          · rw [h3] at h2; simp [Value.ownBlock] at h2
          · simp only [Value.slice.injEq] at h3
            obtain ⟨rfl, _⟩ := h3
            simp only [Value.ownBlock, Option.some.injEq] at h2
            rw [h2]
        · right
          simpa [Value.ownBlock] using h2
    cases B with
    | none =>
      have hws : ws = [] := by
        rcases Nat.eq_zero_or_pos ws.length with h0 | h0
        · exact List.eq_nil_of_length_eq_zero h0
        · obtain ⟨ad, h1, _⟩ := hcells 0 h0; cases h1
      subst hws
      have hrun : (Builtin.append_ #[t, t] o.type #[.slice A vs.length cap, .slice none 0 c]).run P w = .ok (.slice A vs.length cap) w := by
        rcases hown.2 with ⟨h1, h2⟩ | ⟨g, cp, cur, h1, _, _, hnc, _⟩
        · rw [h1]; simp [Builtin.append_, run_underlying h.und, sizeOf, typeInfo, hi, Builtin.lenOf, Builtin.firstCells]
        · rw [h1]; simp [Builtin.append_, run_underlying h.und, sizeOf, typeInfo, hi, Builtin.lenOf, Builtin.firstCells, hnc, storeCells]
      exact ⟨A, cap, w, hrun, by simpa using hown, World.grownBy.refl w _, fun ad h => .inl h⟩
    | some ad =>
      obtain ⟨v', w', h1, h2, h3, _, h5⟩ := run_append_own_at (P := P) w 0 t o.type e i z 1 bytes h.und hi hz hs hby (by rw [h.one]; rfl) (by omega) (.slice A vs.length cap) vs.length vs hown ad ws.length c ws (by omega)
        (fun j u hu => by
          obtain ⟨hj, rfl⟩ := List.getElem?_eq_some_iff.1 hu
          obtain ⟨ad', h1, h2⟩ := hcells j hj
          simp only [Option.some.injEq] at h1
          subst h1
          exact h2) hone (by simp only [maxLen]; omega) (by simpa using hb) (Nat.zero_le _)
      obtain ⟨A', cap', rfl, h6⟩ := shape v' w' h2 h5
      exact ⟨A', cap', w', h1, h2, h3, h6⟩
  obtain ⟨A', cap', w', h1, h2, h3, h4⟩ := key
  have hrun : (execOp a.eval o).run P w = .ok (.value (.slice A' (vs.length + ws.length) cap')) w' := by
    simp only [execOp, ho, resolve, invoke, builtin, Sem.run_bind, Sem.run_pure, Result.andThen_ok, List.map_toArray, List.map_cons, List.map_nil, hl.eval hx, hl.eval hy, h1]
  simp only [Oper.wp, hrun, Oper.upon_value]
  refine ⟨fun hc => absurd hc (by simp), _, _, hl.add hdd hd _, ?_, hK A' cap'⟩
  refine hmp.change (by exact trivial) ⟨h3.os, h3.tape, h3.output, h3.size, fun k hk hc => h3.block k hk (fun hkb => hc ?_)⟩ (by show w'.ownsRow 0 e 1 (.slice A' (vs ++ ws).length cap') (vs ++ ws).length (vs ++ ws); rw [hlen']; exact h2) (fun b' hb' => ?_)
  · cases A with
    | none => simp [Value.ownBlock] at hkb
    | some ad => exact ⟨ad, rfl, by simpa [Value.ownBlock] using hkb.symm⟩
  · obtain ⟨ad, rfl, rfl⟩ := hb'
    rcases h4 ad rfl with h5 | h5
    · exact .inl ⟨ad, h5, rfl⟩
    · exact .inr (by omega)

theorem eAppI {A B : Option Addr} {n m c cap : Nat} {xs ys : List Int} (ho : o.op = .call { callee := .builtin .append, args := #[x, y], argTypes := #[t, t] }) {d : Nat} (hdd : o.dst = some d) (hd : Nat.ble (d + 1) N.n = true) [h : SlTy P t e z 8]
    (hx : ev L x = some (.slice A n cap)) (hy : ev L y = some (.slice B m c)) [hp : PkOw F A e cap (ints xs) F'] [hr : Rd F B (ints ys)] (hn : n = xs.length) (hm' : m = ys.length) (hb : xs.length + ys.length ≤ 17592186044416)
    (hK : ∀ (A' : Option Addr) (cap' : Nat), K (addL d (.slice A' (xs ++ ys).length cap') L) (ow A' e cap' (ints (xs ++ ys)) :: F')) : Eff P N M w0 false o L F K :=
  eApp ho hdd hd (h := h) hx hy (hp := hp) (hr := hr) (by simpa using hn) (by simpa using hm') (ints_oneCell .i64 ys) (by simp only [ints_length]; omega) (by simp only [ints_length]; omega) (fun A' cap' => by
    have := hK A' cap'
    rw [ints_append, List.length_append] at this
    simpa using this)

theorem eff_skip (hd : o.dst = none) (h : ∀ a w, Holds N a L → Mem M w0 w F → ∃ w', (execOp a.eval o).run P w = .ok .skip w' ∧ ∃ F', Mem M w0 w' F' ∧ K L F') : Eff P N M w0 false o L F K := fun a w hl hm => by
  obtain ⟨w', h1, F', h3, h4⟩ := h a w hl hm
  simp only [Oper.wp, h1, Oper.upon_skip]
  refine ⟨fun hc => absurd hc (by simp), L, F', ?_, h3, h4⟩
  rw [hd]; exact hl

theorem store_run {w : World} {ad : Addr} {u : Value} (h : ScTy P t) (hc : w.cell? ad = some u) (hf : w.frozen? ad = false) (hv : v.cells = #[v]) (ho : v.oneCell' = true) : (Instr.storeAt t (.pointer (some ad)) v).run P w = .ok () (w.setCell ad v) := by
  have h0 : (ad.add 0) = ad := by simp [Addr.add]
  simp only [Instr.storeAt, Instr.sureAddr, storeVar, Sem.run_bind, Sem.run_pure, Result.andThen_ok, run_size1 h.inf, hv]
  simp only [List.size_toArray, List.length_cons, List.length_nil, ne_eq, not_true_eq_false, if_false, Sem.run_bind, Sem.run_pure, storeCells, h0]
  cases v <;> simp_all [store, Sem.run, Value.oneCell'] <;> rfl

/-- A store into a slice of the walk's own. -/
theorem eSt {A : Option Addr} {j cap : Nat} {vs : List Value} (ho : o.op = .store t x y) (hd : o.dst = none) [h : ScTy P t] (hx : ev L x = some (.pointer (some ((A.getD a0).add j)))) (hy : ev L y = some v) [hp : PkOw F A e cap vs F'] (hj : j < vs.length) (hv : v.cells = #[v]) (h1 : v.oneCell' = true)
    (hK : K L (ow A e cap (vs.set j v) :: F')) : Eff P N M w0 false o L F K := eff_skip hd fun a w hl hm => by
  have hmp := hm.perm hp.perm
  have hown : w.ownsRow 0 e 1 (.slice A vs.length cap) vs.length vs := hmp.sat _ (List.mem_cons_self ..)
  rcases hown.2 with ⟨_, h0⟩ | ⟨g, cp, cur, hv2, _⟩
  · omega
  · simp only [Value.slice.injEq] at hv2
    obtain ⟨rfl, _⟩ := hv2
    obtain ⟨hst, hgr⟩ := hown.stored j v
    refine ⟨w.setCell ⟨g, j, none⟩ v, ?_, _, hmp.change (by exact trivial) ⟨hgr.os, hgr.tape, hgr.output, hgr.size, fun k hk hc => hgr.block k hk (fun hkb => hc ⟨_, rfl, by simpa using hkb.symm⟩)⟩ (d := ow (some ⟨g, 0, none⟩) e cap (vs.set j v)) ?_ (fun b' hb' => .inl hb'), hK⟩
    · have hc := hown.cellAt j (by omega)
      rw [List.getElem?_eq_getElem hj] at hc
      have := store_run (P := P) (t := t) (v := v) h hc (hown.frozenAt j) hv h1
      simp only [Option.getD_some, add_new] at hx
      simp only [execOp, ho, hl.eval hx, hl.eval hy, Sem.run_bind, this, Result.andThen_ok, Sem.run_pure]
    · show World.ownsRow _ 0 e 1 (.slice (some ⟨g, 0, none⟩) (vs.set j v).length cap) (vs.set j v).length (vs.set j v)
      rw [List.length_set]; exact hst
theorem eStI {A : Option Addr} {j cap : Nat} {xs : List Int} {n : Int} (ho : o.op = .store t x y) (hd : o.dst = none) [h : ScTy P t] (hx : ev L x = some (.pointer (some ((A.getD a0).add j)))) (hy : ev L y = some (.int .i64 n)) [hp : PkOw F A e cap (ints xs) F'] (hj : j < xs.length)
    (hK : K L (ow A e cap (ints (xs.set j n)) :: F')) : Eff P N M w0 false o L F K := eSt ho hd (h := h) hx hy (hp := hp) (by simpa using hj) rfl rfl (by rw [← ints_set]; exact hK)
theorem eStB {A : Option Addr} {j cap : Nat} {xs : List Bool} {n : Bool} (ho : o.op = .store t x y) (hd : o.dst = none) [h : ScTy P t] (hx : ev L x = some (.pointer (some ((A.getD a0).add j)))) (hy : ev L y = some (.bool n)) [hp : PkOw F A e cap (bools xs) F'] (hj : j < xs.length)
    (hK : K L (ow A e cap (bools (xs.set j n)) :: F')) : Eff P N M w0 false o L F K := eSt ho hd (h := h) hx hy (hp := hp) (by simpa using hj) rfl rfl (by rw [← bools_set]; exact hK)

theorem blk_stored {w : World} {p : Addr} {vs : List Value} (h : (blk p e vs).sat w) (j : Nat) (u : Value) : (blk p e (vs.set j u)).sat (w.setCell ⟨p.block, j, none⟩ u) ∧ w.grownBy (w.setCell ⟨p.block, j, none⟩ u) (some p.block) :=
  ⟨⟨h.1, by have := heap_setCell_same w p.block j vs.toArray e u h.2; simpa [List.setIfInBounds_toArray] using this⟩, ⟨rfl, rfl, rfl, by simp, fun k _ hk => heap_setCell_other w ⟨p.block, j, none⟩ k u (fun e => hk (by simp [e]))⟩⟩
/-- A store into a struct or a variable of the walk's own. -/
theorem eStF {p q : Addr} {j : Nat} {vs : List Value} (hq : q = p.add j) (ho : o.op = .store t x y) (hd : o.dst = none) [h : ScTy P t] (hx : ev L x = some (.pointer (some q))) (hy : ev L y = some v) [hp : PkBlk F p e vs F'] (hj : j < vs.length) (hv : v.cells = #[v]) (h1 : v.oneCell' = true)
    (hK : K L (blk p e (vs.set j v) :: F')) : Eff P N M w0 false o L F K := eff_skip hd fun a w hl hm => by
  subst hq
  have hmp := hm.perm hp.perm
  have hb : (blk p e vs).sat w := hmp.sat _ (List.mem_cons_self ..)
  obtain ⟨hst, hgr⟩ := blk_stored hb j v
  have hpj : p.add j = ⟨p.block, j, none⟩ := by rw [hb.1, add_new]
  rw [hpj] at hx
  refine ⟨w.setCell ⟨p.block, j, none⟩ v, ?_, _, hmp.change (by exact trivial) ⟨hgr.os, hgr.tape, hgr.output, hgr.size, fun k hk hc => hgr.block k hk (fun hkb => hc (by simpa [blk] using hkb.symm))⟩ hst (fun b' hb' => .inl hb'), hK⟩
  have hc : w.cell? ⟨p.block, j, none⟩ = some vs[j] := by simp [World.cell?, hb.2, hj]
  have hf : w.frozen? ⟨p.block, j, none⟩ = false := by simp [World.frozen?, hb.2]
  have := store_run (P := P) (t := t) (v := v) h hc hf hv h1
  simp only [execOp, ho, hl.eval hx, hl.eval hy, Sem.run_bind, this, Result.andThen_ok, Sem.run_pure]
theorem eSt0 {p : Addr} {u : Value} {vs : List Value} (ho : o.op = .store t x y) (hd : o.dst = none) [h : ScTy P t] (hx : ev L x = some (.pointer (some p))) (hy : ev L y = some v) [hp : PkBlk F p e (u :: vs) F'] (hv : v.cells = #[v]) (h1 : v.oneCell' = true)
    (hK : K L (blk p e (v :: vs) :: F')) : Eff P N M w0 false o L F K := eStF (j := 0) (by simp [Addr.add]) ho hd (h := h) hx hy (hp := hp) (by simp) hv h1 hK

/-! ### Cuts -/
def shA (A : Option Addr) (l : Nat) : Option Addr := A.map (·.add l)
instance Rd.sh (F : List Chunk) (A : Option Addr) (l : Nat) (vs : List Value) [h : Rd F A vs] : Rd F (shA A l) (vs.drop l) := ⟨fun M w0 w hm j hj => by
  simp only [List.length_drop] at hj
  obtain ⟨ad, rfl, hc⟩ := h.rd M w0 w hm (l + j) (by omega)
  refine ⟨_, rfl, ?_⟩
  rw [add_add, hc]
  simp, fun b hb => by
  obtain ⟨hne, ad, h1, h2⟩ := hb
  cases A with
  | none => cases h1
  | some ad' =>
    simp only [shA, Option.map_some, Option.some.injEq] at h1
    subst h1
    rw [block_add] at h2
    exact h.ft b ⟨fun e => hne (by rw [e, List.drop_nil]), ad', rfl, h2⟩⟩

theorem rCutHi {A : Option Addr} {n c : Nat} {i : Int} (ho : o.op = .slice t x none (some y) none) [h : SlTy P t e z bytes] (hx : ev L x = some (.slice A n c)) (hy : ev L y = some (.int .i64 i)) (h0 : 0 ≤ i) (h1 : i ≤ c) : Stl P N M w0 o L F (.slice A i.toNat c) := fun a w hl _ => by
  simp only [execOp, ho, hl.eval hx, Option.map_none, Option.map_some, hl.eval hy, Instr.sliceAt, Sem.run_bind, run_und h.und, Result.andThen_ok]
  simp only [Instr.slice, Instr.sliceBounds, Instr.sliceBound, asIntOf, Sem.run_bind, Sem.run_pure, Result.andThen_ok, run_und h.und, run_size1 h.size, h0, h1]
  simp [Addr.add]
theorem rCutLo {A : Option Addr} {n c : Nat} {i : Int} (ho : o.op = .slice t x (some y) none none) [h : SlTy P t e z bytes] (hx : ev L x = some (.slice A n c)) (hy : ev L y = some (.int .i64 i)) (h0 : 0 ≤ i) (h1 : i ≤ n) (h2 : i < c) : Stl P N M w0 o L F (.slice (shA A i.toNat) (n - i.toNat) (c - i.toNat)) := fun a w hl _ => by
  simp only [execOp, ho, hl.eval hx, Option.map_none, Option.map_some, hl.eval hy, Instr.sliceAt, Sem.run_bind, run_und h.und, Result.andThen_ok]
  simp only [Instr.slice, Instr.sliceBounds, Instr.sliceBound, asIntOf, Sem.run_bind, Sem.run_pure, Result.andThen_ok, run_und h.und, run_size1 h.size, h0, h1]
  have : ¬ c = i.toNat := by omega
  simp [this, shA]
end
end Go.Proofs.Ytjmojhflnjbgaaa

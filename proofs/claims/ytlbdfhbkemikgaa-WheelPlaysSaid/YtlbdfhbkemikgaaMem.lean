/- How a wheel lies in memory: one block of 1032 cells, a row for each slot, a map; what a call keeps. -/
import Derived.Test.YtlbdfhbkemikgaaProg
import Derived.Test.YtlbdfhbkemikgaaPlain
import Derived.WalkKit
import Derived.KernelRfl
import Derived.Lib.Hide
import Derived.Maps.AppendAt
import Derived.Maps.OwnSet
set_option linter.unusedVariables false
set_option linter.unusedSimpArgs false
namespace Go.Proofs.Ytlbdfhbkemikgaa
open Go.RowKit Plain
open Go.ChangeMaps (setBlock)

/-! ### what a call keeps: all blocks but those of a footprint -/

structure Keep (F : Nat → Prop) (w w' : World) : Prop where
  os : w'.os = w.os
  tape : w'.tape = w.tape
  output : w'.output = w.output
  size : w.heap.size ≤ w'.heap.size
  block : ∀ k, k < w.heap.size → ¬ F k → w'.heap[k]? = w.heap[k]?

section
variable {F G : Nat → Prop} {w w1 w2 : World}
theorem Keep.refl (F : Nat → Prop) (w : World) : Keep F w w := ⟨rfl, rfl, rfl, Nat.le_refl _, fun _ _ _ => rfl⟩
theorem Keep.trans (h : Keep F w w1) (h' : Keep G w1 w2) (hG : ∀ k, k < w.heap.size → G k → F k) : Keep F w w2 :=
  ⟨h'.os.trans h.os, h'.tape.trans h.tape, h'.output.trans h.output, Nat.le_trans h.size h'.size,
    fun k hk hF => (h'.block k (Nat.lt_of_lt_of_le hk h.size) (fun hg => hF (hG k hk hg))).trans (h.block k hk hF)⟩
theorem Keep.mono (h : Keep F w w1) (hG : ∀ k, k < w.heap.size → F k → G k) : Keep G w w1 := ⟨h.os, h.tape, h.output, h.size, fun k hk hn => h.block k hk (fun hf => hn (hG k hk hf))⟩
theorem Keep.alloc (h : Keep F w w1) (o : Obj) : Keep F w (w1.alloc o) :=
  ⟨h.os, h.tape, h.output, Nat.le_trans h.size (by simp), fun k hk hF => (Below.heap_alloc w1 o k (Nat.lt_of_lt_of_le hk h.size)).trans (h.block k hk hF)⟩
theorem Keep.setCell (h : Keep F w w1) {p : Addr} (hp : p.block < w.heap.size → F p.block) (u : Value) : Keep F w (w1.setCell p u) :=
  ⟨h.os, h.tape, h.output, by simpa using h.size, fun k hk hF => (Below.heap_setCell w1 p u k (fun e => hF (e ▸ hp (e ▸ hk)))).trans (h.block k hk hF)⟩
theorem Keep.grown (h : Keep F w w1) {row : Option Nat} (hg : w1.grownBy w2 row) (hr : ∀ k, row = some k → k < w.heap.size → F k) : Keep F w w2 :=
  ⟨hg.os.trans h.os, hg.tape.trans h.tape, hg.output.trans h.output, Nat.le_trans h.size hg.size,
    fun k hk hF => (hg.block k (Nat.lt_of_lt_of_le hk h.size) (fun e => hF (hr k e.symm hk))).trans (h.block k hk hF)⟩
theorem Keep.drew (h : Keep F w w1) : Keep F w w1.drew := ⟨h.os, h.tape, h.output, h.size, h.block⟩
theorem Keep.below (h : Keep F w w1) {B : Nat} (hB : B ≤ w.heap.size) (hF : ∀ k, k < B → ¬ F k) : Below B w w1 :=
  ⟨h.os, h.tape, h.output, h.size, fun k hk => h.block k (Nat.lt_of_lt_of_le hk hB) (hF k hk)⟩
theorem Keep.cell (h : Keep F w w1) {b o : Nat} (hb : b < w.heap.size) (hF : ¬ F b) : w1.cell? ⟨b, o, none⟩ = w.cell? ⟨b, o, none⟩ := World.cell?_of_block (w := w) (h.block b hb hF)
end

/-- a row that is ours stays where its block is none of the footprint's. -/
theorem own_keep {F : Nat → Prop} {w w1 : World} {B : Nat} {v : Value} {n : Nat} {xs : List Value} {e : TypeId} {size : Nat} (hown : w.ownsRow B e size v n xs) (h : Keep F w w1) (hF : ∀ g, v.ownBlock = some g → ¬ F g) : w1.ownsRow B e size v n xs := by
  refine ⟨hown.1, ?_⟩
  rcases hown.2 with h' | ⟨g, cap, cur, hv, hB, hg, r⟩
  · exact .inl h'
  · exact .inr ⟨g, cap, cur, hv, hB, (h.block g (Array.getElem?_eq_some_iff.1 hg).1 (hF g (by rw [hv]; rfl))).trans hg, r⟩

/-! ### a block that is known whole -/

def Row (w : World) (g : Nat) (t : TypeId) (cs : Array Value) : Prop := w.heap[g]? = some (.cells cs t (0, 0))

section
variable {w w' : World} {g : Nat} {t : TypeId} {cs : Array Value}
theorem Row.lt (h : Row w g t cs) : g < w.heap.size := (Array.getElem?_eq_some_iff.1 h).1
theorem Row.cell (h : Row w g t cs) (i : Nat) : w.cell? ⟨g, i, none⟩ = cs[i]? := cell_of_row w g i cs t (0, 0) h
theorem Row.free (h : Row w g t cs) (i : Nat) : w.frozen? ⟨g, i, none⟩ = false := by
  unfold Row at h
  simp [World.frozen?, h]
theorem Row.new (w : World) (t : TypeId) (cs : Array Value) : Row (w.alloc (.cells cs t)) w.heap.size t cs := heap_alloc_new w _
theorem Row.alloc (h : Row w g t cs) (o : Obj) : Row (w.alloc o) g t cs := (Below.heap_alloc w o g h.lt).trans h
theorem Row.put (h : Row w g t cs) (i : Nat) (u : Value) : Row (w.setCell ⟨g, i, none⟩ u) g t (cs.setIfInBounds i u) := by
  unfold Row at h ⊢
  simp [World.setCell, Array.getElem?_modify, h]
theorem Row.keep {F : Nat → Prop} (h : Row w g t cs) (hb : Keep F w w') (hg : ¬ F g) : Row w' g t cs := (hb.block g h.lt hg).trans h
theorem Row.far (h : Row w g t cs) {p : Addr} (hp : g ≠ p.block) (u : Value) : Row (w.setCell p u) g t cs := (Below.heap_setCell w p u g hp).trans h
theorem Row.grown (h : Row w g t cs) {row : Option Nat} (hg : w.grownBy w' row) (hne : some g ≠ row) : Row w' g t cs := (hg.block g h.lt hne).trans h
end

/-! ### the map of timers -/

def MapAt (w : World) (m : Nat) (L : List (Int × Value)) : Prop :=
  ∃ es clock, w.heap[m]? = some (.map es clock) ∧ es.toList.map (fun e => (e.key, e.val)) = L.map (fun x => (Value.int .i64 x.1, x.2))

theorem MapAt.lt {w : World} {m : Nat} {L : List (Int × Value)} (h : MapAt w m L) : m < w.heap.size := by
  obtain ⟨es, c, h, _⟩ := h
  exact (Array.getElem?_eq_some_iff.1 h).1

theorem MapAt.of_block {w w' : World} {m : Nat} {L : List (Int × Value)} (h : MapAt w m L) (e : w'.heap[m]? = w.heap[m]?) : MapAt w' m L := by
  obtain ⟨es, c, h, r⟩ := h
  exact ⟨es, c, e.trans h, r⟩

theorem MapAt.made (w : World) : MapAt (w.alloc (.map #[] 0)) w.heap.size [] := ⟨#[], 0, heap_alloc_new w _, rfl⟩

def Ranged (L : List (Int × Value)) : Prop := ∀ x ∈ L, (Lit.int .i64 x.1).wf = true

theorem Try.keyed : Go.Maps.Keyed Try.prog 2 := Go.Maps.int_keyed Try.underlying2

theorem key2 {a : Int} (h : (Lit.int .i64 a).wf = true) : keyOf Try.prog 2 (.int .i64 a) = some (.int .i64 a) := Go.Maps.keyOf_int_mk Try.underlying2 h

section
variable {w : World} {m : Nat} {L : List (Int × Value)}

theorem MapAt.keys {es : Array MapEntry} (hr : Ranged L) (h : es.toList.map (fun e => (e.key, e.val)) = L.map (fun x => (Value.int .i64 x.1, x.2))) :
    (∀ e ∈ es.toList, ∃ l, keyOf Try.prog 2 e.key = some l) := by
  intro e he
  have : (e.key, e.val) ∈ L.map (fun x => (Value.int .i64 x.1, x.2)) := h ▸ List.mem_map.2 ⟨e, he, rfl⟩
  obtain ⟨x, hx, e'⟩ := List.mem_map.1 this
  have e1 : Value.int .i64 x.1 = e.key := congrArg Prod.fst e'
  exact ⟨_, e1 ▸ key2 (hr x hx)⟩

/-- a key that is not there. -/
theorem MapAt.look_none (h : MapAt w m L) (hr : Ranged L) {a : Int} (ha : (Lit.int .i64 a).wf = true) (hn : ∀ x ∈ L, x.1 ≠ a) {z : Value} (hz : (zeroValue 82).run Try.prog w = .ok z w) :
    (Instr.lookup 68 (.map (some m)) (.int .i64 a) true).run Try.prog w = .ok (.tuple #[z, .bool false]) w := by
  obtain ⟨es, c, hb, he⟩ := h
  rcases Try.keyed.find w (key2 ha) es.toList (MapAt.keys hr he) with ⟨h1, h2⟩ | ⟨j, e0, h1, h2, h3⟩
  · simp [Instr.lookup, run_underlying Try.underlying68, MapKept.run_getObj_map hb, Try.keyed.check w _ (key2 ha), h1, hz, Result.andThen]
  · have : (e0.key, e0.val) ∈ L.map (fun x => (Value.int .i64 x.1, x.2)) := he ▸ List.mem_map.2 ⟨e0, List.mem_of_getElem? h2, rfl⟩
    obtain ⟨x, hx, e'⟩ := List.mem_map.1 this
    have e1 : Value.int .i64 x.1 = e0.key := congrArg Prod.fst e'
    rw [h3] at e1
    exact absurd (by simpa using e1) (hn x hx)

/-- a key that is there. -/
theorem MapAt.look_some (h : MapAt w m L) (hr : Ranged L) {a : Int} {v : Value} (hm : (a, v) ∈ L) (hu : ∀ x ∈ L, x.1 = a → x.2 = v) :
    (Instr.lookup 68 (.map (some m)) (.int .i64 a) true).run Try.prog w = .ok (.tuple #[v, .bool true]) w := by
  obtain ⟨es, c, hb, he⟩ := h
  have ha := hr _ hm
  rcases Try.keyed.find w (key2 ha) es.toList (MapAt.keys hr he) with ⟨h1, h2⟩ | ⟨j, e0, h1, h2, h3⟩
  · have : (Value.int .i64 a, v) ∈ es.toList.map (fun e => (e.key, e.val)) := he ▸ List.mem_map.2 ⟨_, hm, rfl⟩
    obtain ⟨x, hx, e'⟩ := List.mem_map.1 this
    exact absurd (congrArg Prod.fst e') (h2 x hx)
  · have : (e0.key, e0.val) ∈ L.map (fun x => (Value.int .i64 x.1, x.2)) := he ▸ List.mem_map.2 ⟨e0, List.mem_of_getElem? h2, rfl⟩
    obtain ⟨x, hx, e'⟩ := List.mem_map.1 this
    have e0' : Value.int .i64 x.1 = e0.key := congrArg Prod.fst e'
    rw [h3] at e0'
    have e1 : x.1 = a := by simpa using e0'
    have e2' : x.2 = e0.val := congrArg Prod.snd e'
    have e2 : e0.val = v := by rw [← hu x hx e1, e2']
    simp [Instr.lookup, run_underlying Try.underlying68, MapKept.run_getObj_map hb, Try.keyed.check w _ (key2 ha), h1, Result.andThen, e2]

theorem MapAt.add (h : MapAt w m L) (hr : Ranged L) {a : Int} (ha : (Lit.int .i64 a).wf = true) (hn : ∀ x ∈ L, x.1 ≠ a) (v : Value) :
    ∃ w', (Instr.mapUpdate 68 (.map (some m)) (.int .i64 a) v).run Try.prog w = .ok () w' ∧ MapAt w' m (L ++ [(a, v)]) ∧ w.mapTurned w' m := by
  obtain ⟨es, c, hb, he⟩ := h
  rcases Try.keyed.find w (key2 ha) es.toList (MapAt.keys hr he) with ⟨h1, h2⟩ | ⟨j, e0, h1, h2, h3⟩
  · refine ⟨setBlock w m (.map (es.push ⟨.int .i64 a, v, c⟩) (c + 1)), ?_, ⟨_, _, (Go.MapKept.heap_set hb).1, ?_⟩, ⟨_, _, _, _, hb, rfl⟩⟩
    · simp [Instr.mapUpdate, run_underlying Try.underlying68, MapKept.run_getObj_map hb, Try.keyed.check w false (key2 ha), h1, MapKept.run_setObj_map _ hb, Result.andThen, setBlock]
    · simp [he]
  · have : (e0.key, e0.val) ∈ L.map (fun x => (Value.int .i64 x.1, x.2)) := he ▸ List.mem_map.2 ⟨e0, List.mem_of_getElem? h2, rfl⟩
    obtain ⟨x, hx, e'⟩ := List.mem_map.1 this
    have e1 : Value.int .i64 x.1 = e0.key := congrArg Prod.fst e'
    rw [h3] at e1
    exact absurd (by simpa using e1) (hn x hx)

theorem erase_filter : ∀ (l : List (Int × Value)) (j : Nat) (a : Int), (l.map (·.1)).Pairwise (· < ·) → (∃ v, l[j]? = some (a, v)) → l.eraseIdx j = l.filter (fun x => decide (x.1 ≠ a))
  | [], j, a, _, ⟨v, h⟩ => by simp at h
  | x :: l, 0, a, hp, ⟨v, h⟩ => by
    simp at h
    subst h
    simp only [List.map_cons, List.pairwise_cons] at hp
    simp only [List.eraseIdx_zero, List.tail_cons, List.filter_cons]
    have : ∀ y ∈ l, decide (y.1 ≠ a) = true := fun y hy => by
      have := hp.1 y.1 (List.mem_map.2 ⟨y, hy, rfl⟩)
      simp; omega
    rw [if_neg (by simp)]
    exact (List.filter_eq_self.2 this).symm
  | x :: l, j + 1, a, hp, ⟨v, h⟩ => by
    simp only [List.map_cons, List.pairwise_cons] at hp
    have hm : (a, v) ∈ l := List.mem_of_getElem? (by simpa using h)
    have := hp.1 a (List.mem_map.2 ⟨_, hm, rfl⟩)
    rw [List.eraseIdx_cons_succ, erase_filter l j a hp.2 ⟨v, by simpa using h⟩, List.filter_cons, if_pos (by simp; omega)]

theorem MapAt.drop (h : MapAt w m L) (hr : Ranged L) (hp : (L.map (·.1)).Pairwise (· < ·)) {a : Int} (ha : (Lit.int .i64 a).wf = true) (ty : TypeId) :
    ∃ w', (Builtin.delete_ #[68, 2] ty #[.map (some m), .int .i64 a]).run Try.prog w = .ok (.tuple #[]) w' ∧ MapAt w' m (L.filter (fun x => decide (x.1 ≠ a))) ∧ w.mapTurned w' m := by
  obtain ⟨es, c, hb, he⟩ := h
  rcases Try.keyed.find w (key2 ha) es.toList (MapAt.keys hr he) with ⟨h1, h2⟩ | ⟨j, e0, h1, h2, h3⟩
  · refine ⟨setBlock w m (.map es c), ?_, ⟨_, _, (Go.MapKept.heap_set hb).1, ?_⟩, ⟨_, _, _, _, hb, rfl⟩⟩
    · simp [Builtin.delete_, run_underlying Try.underlying68, MapKept.run_getObj_map hb, Try.keyed.check w _ (key2 ha), h1, MapKept.run_setObj_map _ hb, Result.andThen, setBlock]
    · rw [List.filter_eq_self.2, he]
      intro x hx
      simp only [ne_eq, decide_not, Bool.not_eq_true', decide_eq_false_iff_not]
      intro e
      have : (Value.int .i64 x.1, x.2) ∈ es.toList.map (fun e => (e.key, e.val)) := he ▸ List.mem_map.2 ⟨x, hx, rfl⟩
      obtain ⟨y, hy, e'⟩ := List.mem_map.1 this
      exact h2 y hy (by have := congrArg Prod.fst e'; rw [e] at this; exact this)
  · have hjl : j < es.toList.length := (List.getElem?_eq_some_iff.1 h2).1
    have hjs : j < es.size := by simpa using hjl
    have hsub : (es.eraseIdxIfInBounds j).toList = es.toList.eraseIdx j := by
      unfold Array.eraseIdxIfInBounds
      rw [dif_pos hjs]
      simp
    have hj : ∃ v, L[j]? = some (a, v) := by
      have e1 : (L.map (fun x => (Value.int .i64 x.1, x.2)))[j]? = some (e0.key, e0.val) := by rw [← he, List.getElem?_map, h2]; rfl
      rw [List.getElem?_map] at e1
      obtain ⟨x, hx, e'⟩ := Option.map_eq_some_iff.1 e1
      have e2 : Value.int .i64 x.1 = e0.key := congrArg Prod.fst e'
      rw [h3] at e2
      have e3 : x.1 = a := by simpa using e2
      exact ⟨x.2, by rw [hx, ← e3]⟩
    refine ⟨setBlock w m (.map (es.eraseIdxIfInBounds j) c), ?_, ⟨_, _, (Go.MapKept.heap_set hb).1, ?_⟩, ⟨_, _, _, _, hb, rfl⟩⟩
    · simp [Builtin.delete_, run_underlying Try.underlying68, MapKept.run_getObj_map hb, Try.keyed.check w _ (key2 ha), h1, MapKept.run_setObj_map _ hb, Result.andThen, setBlock]
    · rw [hsub, ← erase_filter L j a hp hj, Go.ChangeMaps.map_eraseIdx, Go.ChangeMaps.map_eraseIdx, he]

theorem MapAt.len (h : MapAt w m L) (ty : TypeId) : (Builtin.len_ #[68] ty #[.map (some m)]).run Try.prog w = .ok (.int .i64 L.length) w := by
  obtain ⟨es, c, hb, he⟩ := h
  have : es.size = L.length := by have := congrArg List.length he; simpa using this
  rw [← this]
  simp [Builtin.len_, run_underlying Try.underlying68, MapKept.run_getObj_map hb, goInt, Result.andThen]

theorem turned_grown {w' : World} (h : w.mapTurned w' m) : w.grownBy w' (some m) := h.grown
end

/-! ### at the operation -/
section
variable {w : World} {m : Nat} {L : List (Int × Value)} {ops : Array Oper} {rest : List Oper} {o : Oper} {a : Act} {Q : Exit → Act → World → Prop}

theorem wp_look_none (hg : o.guard = none) (mo x : Operand) (hop : o.op = Op.lookup 68 mo x true) (hm : a.eval mo = .map (some m)) (h : MapAt w m L) (hr : Ranged L) (k : Int) (hx : a.eval x = .int .i64 k) (hk : (Lit.int .i64 k).wf = true)
    (hn : ∀ x ∈ L, x.1 ≠ k) (z : Value) (hz : (zeroValue 82).run Try.prog w = .ok z w)
    (hK : wpList Try.prog ops Q rest (a.put o.dst (.tuple #[z, .bool false])) w) : wpList Try.prog ops Q (o :: rest) a w := by
  refine wpList_plain hg fun K' hK' => ?_
  unfold Oper.wp
  simp [execOp, hop, hm, hx, h.look_none hr hk hn hz, Result.andThen]
  exact hK' _ _ hK

theorem wp_look_some (hg : o.guard = none) (mo x : Operand) (hop : o.op = Op.lookup 68 mo x true) (hm : a.eval mo = .map (some m)) (h : MapAt w m L) (hr : Ranged L) (k : Int) (hx : a.eval x = .int .i64 k)
    (v : Value) (hv : (k, v) ∈ L) (hu : ∀ x ∈ L, x.1 = k → x.2 = v)
    (hK : wpList Try.prog ops Q rest (a.put o.dst (.tuple #[v, .bool true])) w) : wpList Try.prog ops Q (o :: rest) a w := by
  refine wpList_plain hg fun K' hK' => ?_
  unfold Oper.wp
  simp [execOp, hop, hm, hx, h.look_some hr hv hu, Result.andThen]
  exact hK' _ _ hK

theorem wp_map_add (hg : o.guard = none) (mo x y : Operand) (hop : o.op = Op.mapUpdate 68 mo x y) (hm : a.eval mo = .map (some m)) (h : MapAt w m L) (hr : Ranged L) (k : Int) (hx : a.eval x = .int .i64 k) (hk : (Lit.int .i64 k).wf = true)
    (hn : ∀ x ∈ L, x.1 ≠ k) (v : Value) (hy : a.eval y = v)
    (hK : ∀ w', MapAt w' m (L ++ [(k, v)]) → w.grownBy w' (some m) → wpList Try.prog ops Q rest (a.put o.dst undef) w') : wpList Try.prog ops Q (o :: rest) a w := by
  refine wpList_plain hg fun K' hK' => ?_
  obtain ⟨w', hrun, r1, r2⟩ := h.add hr hk hn v
  unfold Oper.wp
  simp [execOp, hop, hm, hx, hy, hrun, Result.andThen]
  exact hK' _ _ (hK w' r1 r2.grown)

theorem wp_map_drop (hg : o.guard = none) (mo x : Operand) (hop : o.op = Op.call { callee := Callee.builtin Builtin.delete, args := #[mo, x], argTypes := #[68, 2] }) (hm : a.eval mo = .map (some m)) (h : MapAt w m L) (hr : Ranged L)
    (hp : (L.map (·.1)).Pairwise (· < ·)) (k : Int) (hx : a.eval x = .int .i64 k) (hk : (Lit.int .i64 k).wf = true)
    (hK : ∀ w', MapAt w' m (L.filter (fun x => decide (x.1 ≠ k))) → w.grownBy w' (some m) → wpList Try.prog ops Q rest (a.put o.dst (.tuple #[])) w') : wpList Try.prog ops Q (o :: rest) a w := by
  refine wpList_plain hg fun K' hK' => ?_
  obtain ⟨w', hrun, r1, r2⟩ := h.drop hr hp hk o.type
  unfold Oper.wp
  simp [execOp, hop, resolve, invoke, builtin, hm, hx, hrun, Result.andThen]
  exact hK' _ _ (hK w' r1 r2.grown)

theorem wp_map_len (hg : o.guard = none) (mo : Operand) (hop : o.op = Op.call { callee := Callee.builtin Builtin.len, args := #[mo], argTypes := #[68] }) (hm : a.eval mo = .map (some m)) (h : MapAt w m L)
    (hK : wpList Try.prog ops Q rest (a.put o.dst (.int .i64 L.length)) w) : wpList Try.prog ops Q (o :: rest) a w := by
  refine wpList_plain hg fun K' hK' => ?_
  unfold Oper.wp
  simp [execOp, hop, resolve, invoke, builtin, hm, h.len o.type, Result.andThen]
  exact hK' _ _ hK
end

end Go.Proofs.Ytlbdfhbkemikgaa

/- A wheel in memory, and what stays of it. -/
import Derived.Test.YtlbdfhbkemikgaaMem
set_option linter.unusedVariables false
set_option linter.unusedSimpArgs false
namespace Go.Proofs.Ytlbdfhbkemikgaa
open Go.RowKit Plain

def iv (i : Nat) : Value := .int .i64 (i : Int)
def isSlot (j : Nat) : Prop := j < 1024 ∨ j = 1027
def lst (S : WS) (j : Nat) : List Nat := if j = 1027 then S.due else S.slot j
theorem lst_slot (S : WS) {j : Nat} (h : j ≠ 1027) : lst S j = S.slot j := if_neg h
theorem lst_due (S : WS) : lst S 1027 = S.due := if_pos rfl
def ent (t : Tm) : Int × Value := ((t.id : Int), .agg #[.int .i64 (t.at_ : Int), .int .i64 t.what])
def ents (l : List Tm) : List (Int × Value) := l.map ent
def Sl (w : World) (v : Value) (l : List Nat) : Prop := w.ownsRow 0 2 1 v l.length (l.map iv)
def updV (V : Nat → Value) (j : Nat) (u : Value) : Nat → Value := fun i => if i = j then u else V i

theorem updV_self (V : Nat → Value) (j : Nat) (u : Value) : updV V j u j = u := by simp [updV]
theorem updV_other (V : Nat → Value) {j i : Nat} (u : Value) (h : i ≠ j) : updV V j u i = V i := by simp [updV, h]

/-- the wheel's block. -/
def WB (w : World) (p : Nat) (V : Nat → Value) : Prop := ∃ cs, Row w p 78 cs ∧ cs.size = 1032 ∧ ∀ i, i < 1032 → cs[i]? = some (V i)

/-- the blocks that are the wheel's. -/
def foot (p m : Nat) (V : Nat → Value) (k : Nat) : Prop := k = p ∨ k = m ∨ ∃ j, isSlot j ∧ (V j).ownBlock = some k

structure Wh (w : World) (p m : Nat) (V : Nat → Value) (S : WS) : Prop where
  row : WB w p V
  c0 : V 1024 = .int .i64 S.m0
  c1 : V 1025 = .int .i64 S.m1
  c2 : V 1026 = .int .i64 S.m2
  map : V 1028 = .map (some m)
  most : V 1029 = .int .i64 (S.most : Int)
  now : V 1030 = .int .i64 (S.now : Int)
  next : V 1031 = .int .i64 (S.next : Int)
  sl : ∀ j, isSlot j → Sl w (V j) (lst S j)
  mp : MapAt w m (ents S.live)
  inj : ∀ i j g, isSlot i → isSlot j → (V i).ownBlock = some g → (V j).ownBlock = some g → i = j

/-- what a call of the wheel keeps. -/
structure Step (p m : Nat) (w : World) (V : Nat → Value) (w' : World) (V' : Nat → Value) : Prop where
  keep : Keep (foot p m V) w w'
  sub : ∀ k, foot p m V' k → foot p m V k ∨ w.heap.size ≤ k

theorem Step.refl (p m : Nat) (w : World) (V : Nat → Value) : Step p m w V w V := ⟨Keep.refl _ _, fun k h => .inl h⟩
theorem Step.trans {p m : Nat} {w w1 w2 : World} {V V1 V2 : Nat → Value} (h : Step p m w V w1 V1) (h' : Step p m w1 V1 w2 V2) : Step p m w V w2 V2 :=
  ⟨h.keep.trans h'.keep (fun k hk hf => (h.sub k hf).resolve_right (by omega)), fun k hf => (h'.sub k hf).elim (h.sub k) (fun hk => .inr (Nat.le_trans h.keep.size hk))⟩

section
variable {w w' : World} {p m : Nat} {V : Nat → Value} {S : WS}

theorem WB.lt (h : WB w p V) : p < w.heap.size := by obtain ⟨cs, h, _⟩ := h; exact h.lt
theorem WB.cell (h : WB w p V) {i : Nat} (hi : i < 1032) : w.cell? ⟨p, i, none⟩ = some (V i) := by
  obtain ⟨cs, h, _, hc⟩ := h
  rw [h.cell, hc i hi]
theorem WB.free (h : WB w p V) (i : Nat) : w.frozen? ⟨p, i, none⟩ = false := by obtain ⟨cs, h, _⟩ := h; exact h.free i
theorem WB.of_block (h : WB w p V) (e : w'.heap[p]? = w.heap[p]?) : WB w' p V := by
  obtain ⟨cs, h, r⟩ := h
  exact ⟨cs, e.trans h, r⟩
theorem WB.put (h : WB w p V) (i : Nat) (u : Value) : WB (w.setCell ⟨p, i, none⟩ u) p (updV V i u) := by
  obtain ⟨cs, h, hs, hc⟩ := h
  refine ⟨_, h.put i u, by simp [hs], fun k hk => ?_⟩
  by_cases e : k = i
  · subst e; rw [updV_self, Array.getElem?_setIfInBounds_self_of_lt (by omega)]
  · rw [updV_other _ _ e, Array.getElem?_setIfInBounds_ne (by omega)]; exact hc k hk

theorem Sl.lt {v : Value} {l : List Nat} (h : Sl w v l) {g : Nat} (hg : v.ownBlock = some g) : g < w.heap.size := (World.ownsRow.lt h g hg).2
theorem Sl.of_block {v : Value} {l : List Nat} (h : Sl w v l) (e : ∀ g, v.ownBlock = some g → w'.heap[g]? = w.heap[g]?) : Sl w' v l := by
  refine ⟨h.1, ?_⟩
  rcases h.2 with h' | ⟨g, cap, cur, hv, hB, hg, r⟩
  · exact .inl h'
  · exact .inr ⟨g, cap, cur, hv, hB, (e g (by rw [hv]; rfl)).trans hg, r⟩
theorem Sl.nil (w : World) : Sl w (.slice none 0 0) [] := World.ownsRow_nil w 0 2 1
theorem Sl.ty {v : Value} {l : List Nat} (h : Sl w v l) {g : Nat} (hg : v.ownBlock = some g) : ∃ cs, w.heap[g]? = some (.cells cs 2 (0, 0)) := by
  rcases h.2 with ⟨rfl, _⟩ | ⟨g', cap, cur, hv, hB, hg', r⟩
  · simp [Value.ownBlock] at hg
  · subst hv
    simp [Value.ownBlock] at hg
    subst hg
    exact ⟨_, hg'⟩

/-- a slot's block is neither the wheel's nor the map's. -/
theorem Wh.apart (h : Wh w p m V S) {j g : Nat} (hj : isSlot j) (hg : (V j).ownBlock = some g) : g ≠ p ∧ g ≠ m := by
  obtain ⟨cs, hc⟩ := (h.sl j hj).ty hg
  obtain ⟨ds, hr, _⟩ := h.row
  obtain ⟨es, c, hm, _⟩ := h.mp
  refine ⟨fun e => ?_, fun e => ?_⟩
  · subst e; unfold Row at hr; rw [hr] at hc; simp at hc
  · subst e; rw [hm] at hc; simp at hc
theorem Wh.pm (h : Wh w p m V S) : p ≠ m := by
  obtain ⟨ds, hr, _⟩ := h.row
  obtain ⟨es, c, hm, _⟩ := h.mp
  intro e
  subst e; unfold Row at hr; rw [hr] at hm; simp at hm

/-- a world in which the wheel's blocks are as they were. -/
theorem Wh.same (h : Wh w p m V S) (e : ∀ k, foot p m V k → w'.heap[k]? = w.heap[k]?) : Wh w' p m V S :=
  ⟨h.row.of_block (e p (.inl rfl)), h.c0, h.c1, h.c2, h.map, h.most, h.now, h.next, fun j hj => (h.sl j hj).of_block (fun g hg => e g (.inr (.inr ⟨j, hj, hg⟩))), h.mp.of_block (e m (.inr (.inl rfl))), h.inj⟩

theorem Wh.foot_lt (h : Wh w p m V S) {k : Nat} (hk : foot p m V k) : k < w.heap.size := by
  rcases hk with rfl | rfl | ⟨j, hj, hg⟩
  · exact h.row.lt
  · exact h.mp.lt
  · exact (h.sl j hj).lt hg

theorem Wh.alloc (h : Wh w p m V S) (o : Obj) : Wh (w.alloc o) p m V S := h.same (fun k hk => Below.heap_alloc w o k (h.foot_lt hk))
theorem Wh.drew (h : Wh w p m V S) : Wh w.drew p m V S := h.same (fun k hk => rfl)
theorem Wh.keep {F : Nat → Prop} (h : Wh w p m V S) (hk : Keep F w w') (hF : ∀ k, foot p m V k → ¬ F k) : Wh w' p m V S := h.same (fun k hk' => hk.block k (h.foot_lt hk') (hF k hk'))
theorem Wh.far (h : Wh w p m V S) {a : Addr} (ha : ¬ foot p m V a.block) (u : Value) : Wh (w.setCell a u) p m V S :=
  h.same (fun k hk => Below.heap_setCell w a u k (fun e => ha (e ▸ hk)))

theorem slot_ne {j : Nat} (h : isSlot j) : j ≠ 1024 ∧ j ≠ 1025 ∧ j ≠ 1026 ∧ j ≠ 1028 ∧ j ≠ 1029 ∧ j ≠ 1030 ∧ j ≠ 1031 := by unfold isSlot at h; omega

theorem foot_updV {j : Nat} (hj : ¬ isSlot j) (u : Value) {k : Nat} : foot p m (updV V j u) k ↔ foot p m V k := by
  unfold foot
  have : ∀ i, isSlot i → updV V j u i = V i := fun i hi => updV_other _ _ (fun e => hj (e ▸ hi))
  constructor
  · rintro (h | h | ⟨i, hi, hg⟩)
    · exact .inl h
    · exact .inr (.inl h)
    · exact .inr (.inr ⟨i, hi, by rw [this i hi] at hg; exact hg⟩)
  · rintro (h | h | ⟨i, hi, hg⟩)
    · exact .inl h
    · exact .inr (.inl h)
    · exact .inr (.inr ⟨i, hi, by rw [this i hi]; exact hg⟩)

/-- a number of the wheel's is written. -/
theorem Wh.num (h : Wh w p m V S) {j : Nat} (hj : ¬ isSlot j) (u : Value) {S' : WS}
    (hs : S'.slot = S.slot) (hd : S'.due = S.due) (hl : S'.live = S.live)
    (c0 : updV V j u 1024 = .int .i64 S'.m0) (c1 : updV V j u 1025 = .int .i64 S'.m1) (c2 : updV V j u 1026 = .int .i64 S'.m2) (cm : updV V j u 1028 = .map (some m)) (ct : updV V j u 1029 = .int .i64 (S'.most : Int))
    (cn : updV V j u 1030 = .int .i64 (S'.now : Int)) (cx : updV V j u 1031 = .int .i64 (S'.next : Int)) : Wh (w.setCell ⟨p, j, none⟩ u) p m (updV V j u) S' := by
  have hv : ∀ i, isSlot i → updV V j u i = V i := fun i hi => updV_other _ _ (fun e => hj (e ▸ hi))
  refine ⟨h.row.put j u, c0, c1, c2, cm, ct, cn, cx, fun i hi => ?_, ?_, fun i i' g hi hi' hg hg' => h.inj i i' g hi hi' (by rw [hv i hi] at hg; exact hg) (by rw [hv i' hi'] at hg'; exact hg')⟩
  · rw [hv i hi, show lst S' i = lst S i by unfold lst; rw [hs, hd]]
    exact (h.sl i hi).of_block (fun g hg => Below.heap_setCell w _ u g ((h.apart hi hg).1))
  · rw [hl]; exact h.mp.of_block (Below.heap_setCell w _ u m (h.pm.symm))

theorem Step.num (h : Wh w p m V S) {j : Nat} (hj : ¬ isSlot j) (u : Value) : Step p m w V (w.setCell ⟨p, j, none⟩ u) (updV V j u) :=
  ⟨(Keep.refl _ w).setCell (fun _ => .inl rfl) u, fun k hk => .inl ((foot_updV hj u).1 hk)⟩

/-- a slot is written: its row is another one. 'w' has already the new row. -/
theorem Wh.slot (h : Wh w p m V S) {j : Nat} (hj : isSlot j) (v : Value) (l : List Nat) {w1 : World} {S' : WS}
    (hg : w.grownBy w1 (V j).ownBlock) (hv : Sl w1 v l) (hnew : ∀ g, v.ownBlock = some g → (V j).ownBlock = some g ∨ w.heap.size ≤ g)
    (hl : lst S' j = l) (ho : ∀ i, isSlot i → i ≠ j → lst S' i = lst S i) (hlive : S'.live = S.live) (h0 : S'.m0 = S.m0) (h1 : S'.m1 = S.m1) (h2 : S'.m2 = S.m2) (hm : S'.most = S.most) (hn : S'.now = S.now) (hx : S'.next = S.next) :
    Wh (w1.setCell ⟨p, j, none⟩ v) p m (updV V j v) S' ∧ Step p m w V (w1.setCell ⟨p, j, none⟩ v) (updV V j v) := by
  have hne := slot_ne hj
  have hblk : ∀ k, foot p m V k → (V j).ownBlock ≠ some k → w1.heap[k]? = w.heap[k]? := fun k hk hn => hg.block k (h.foot_lt hk) (fun e => hn e.symm)
  have hp1 : w1.heap[p]? = w.heap[p]? := hblk p (.inl rfl) (fun e => (h.apart hj e).1 rfl)
  have hm1 : w1.heap[m]? = w.heap[m]? := hblk m (.inr (.inl rfl)) (fun e => (h.apart hj e).2 rfl)
  have hvp : ∀ g, v.ownBlock = some g → g ≠ p := fun g hg' e => by
    subst e
    rcases hnew g hg' with h' | h'
    · exact (h.apart hj h').1 rfl
    · have := h.row.lt; omega
  refine ⟨⟨(h.row.of_block hp1).put j v, ?_, ?_, ?_, ?_, ?_, ?_, ?_, ?_, ?_, ?_⟩, ?_⟩
  · rw [updV_other _ _ hne.1.symm, h0]; exact h.c0
  · rw [updV_other _ _ hne.2.1.symm, h1]; exact h.c1
  · rw [updV_other _ _ hne.2.2.1.symm, h2]; exact h.c2
  · rw [updV_other _ _ hne.2.2.2.1.symm]; exact h.map
  · rw [updV_other _ _ hne.2.2.2.2.1.symm, hm]; exact h.most
  · rw [updV_other _ _ hne.2.2.2.2.2.1.symm, hn]; exact h.now
  · rw [updV_other _ _ hne.2.2.2.2.2.2.symm, hx]; exact h.next
  · intro i hi
    by_cases e : i = j
    · subst e
      rw [updV_self, hl]
      exact hv.of_block (fun g hg' => Below.heap_setCell w1 _ v g (hvp g hg'))
    · rw [updV_other _ _ e, ho i hi e]
      refine (h.sl i hi).of_block (fun g hg' => (Below.heap_setCell w1 _ v g ((h.apart hi hg').1)).trans (hblk g (.inr (.inr ⟨i, hi, hg'⟩)) (fun e' => e (h.inj i j g hi hj hg' e'))))
  · rw [hlive]; exact h.mp.of_block ((Below.heap_setCell w1 _ v m (h.pm.symm)).trans hm1)
  · intro i i' g hi hi' hg1 hg2
    have key : ∀ i, isSlot i → i ≠ j → v.ownBlock = some g → (V i).ownBlock ≠ some g := fun i hi e hg' hgi => by
      rcases hnew g hg' with h' | h'
      · exact e (h.inj i j g hi hj hgi h')
      · have := (h.sl i hi).lt hgi; omega
    by_cases e : i = j
    · by_cases e' : i' = j
      · omega
      · subst e; rw [updV_self] at hg1; rw [updV_other _ _ e'] at hg2; exact absurd hg2 (key i' hi' e' hg1)
    · by_cases e' : i' = j
      · subst e'; rw [updV_self] at hg2; rw [updV_other _ _ e] at hg1; exact absurd hg1 (key i hi e hg2)
      · rw [updV_other _ _ e] at hg1; rw [updV_other _ _ e'] at hg2; exact h.inj i i' g hi hi' hg1 hg2
  · refine ⟨((Keep.refl _ w).grown hg (fun k hk _ => .inr (.inr ⟨j, hj, hk⟩))).setCell (fun _ => .inl rfl) v, ?_⟩
    rintro k (rfl | rfl | ⟨i, hi, hgi⟩)
    · exact .inl (.inl rfl)
    · exact .inl (.inr (.inl rfl))
    · by_cases e : i = j
      · subst e; rw [updV_self] at hgi
        exact (hnew k hgi).imp (fun h' => .inr (.inr ⟨i, hi, h'⟩)) id
      · rw [updV_other _ _ e] at hgi; exact .inl (.inr (.inr ⟨i, hi, hgi⟩))

/-- the map is written. -/
theorem Wh.mapped (h : Wh w p m V S) {L : List Tm} {w1 : World} (hg : w.grownBy w1 (some m)) (hm : MapAt w1 m (ents L)) : Wh w1 p m V { S with live := L } ∧ Step p m w V w1 V := by
  have hblk : ∀ k, foot p m V k → k ≠ m → w1.heap[k]? = w.heap[k]? := fun k hk hn => hg.block k (h.foot_lt hk) (by simpa using hn)
  refine ⟨⟨h.row.of_block (hblk p (.inl rfl) h.pm), h.c0, h.c1, h.c2, h.map, h.most, h.now, h.next, fun j hj => (h.sl j hj).of_block (fun g hg' => hblk g (.inr (.inr ⟨j, hj, hg'⟩)) (h.apart hj hg').2), hm, h.inj⟩, ?_⟩
  exact ⟨(Keep.refl _ w).grown hg (fun k hk _ => .inr (.inl (by simpa using hk.symm))), fun k hk => .inl hk⟩

theorem Try.longInfo : (Try.prog.info? 2).map (fun i => (i.zero, i.size, i.bytes)) = some (some (.int .i64 0), 1, 8) := by kernel_rfl

/-- 'append(v, k)' at a row that is ours. -/
theorem wp_append_one {ops : Array Oper} {rest : List Oper} {o : Oper} {a : Act} {Q : Exit → Act → World → Prop} (hgd : o.guard = none) (s x : Operand)
    (ho : o.op = .call { callee := .builtin .append, args := #[s, x], argTypes := #[29, 29] }) (v : Value) (l : List Nat) (W : World) (hv : Sl W v l) (k : Nat) (hs : a.eval s = v)
    (hx : a.eval x = .slice (some ⟨W.heap.size, 0, none⟩) 1 1) (hlen : l.length < 1099511627776)
    (h : ∀ A n c w', Sl w' (.slice A n c) (l ++ [k]) → W.grownBy w' v.ownBlock → (∀ g, (Value.slice A n c).ownBlock = some g → v.ownBlock = some g ∨ W.heap.size ≤ g) → wpList Try.prog ops Q rest (a.put o.dst (.slice A n c)) w') :
    wpList Try.prog ops Q (o :: rest) a (W.alloc (.cells #[iv k] 2)) := by
  obtain ⟨i0, hi, hz0, hz1, hz2⟩ := info_parts Try.longInfo
  refine wpList_append_own_at _ hgd s x 29 ho 0 2 i0 (.int .i64 0) 1 8 Try.underlying29 hi hz0 hz1 hz2 rfl (by decide) v l.length (l.map iv) hs (World.ownsRow.alloc hv _) ⟨W.heap.size, 0, none⟩ 1 1 [iv k] hx rfl (cell_one_new W (iv k) 2)
    (by simp [iv, Value.oneCell']) (by unfold maxLen; omega) (by omega) (Nat.zero_le _) ?_
  intro v' w' h1 h2 _ h3
  obtain ⟨A, n, c, rfl⟩ : ∃ A n c, v' = .slice A n c := by
    rcases h1.2 with ⟨rfl, _⟩ | ⟨g, cap, cur, rfl, _⟩
    · exact ⟨_, _, _, rfl⟩
    · exact ⟨_, _, _, rfl⟩
  refine h A n c w' ?_ ((World.grownBy_alloc W _ _).trans h2) (fun g hg => ?_)
  · unfold Sl; rw [List.map_append, List.length_append]; exact h1
  · rcases h3 with h3 | h3
    · exact .inl (h3 ▸ hg)
    · rw [h3] at hg
      simp at hg
      exact .inr (by omega)
end
end Go.Proofs.Ytlbdfhbkemikgaa

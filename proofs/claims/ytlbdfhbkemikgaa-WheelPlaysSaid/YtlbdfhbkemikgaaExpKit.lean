/- WheelExpires: the kit. -/
import Derived.Test.YtlbdfhbkemikgaaTwo
import Derived.Test.YtlbdfhbkemikgaaLawKit
set_option linter.unusedVariables false
set_option linter.unusedSimpArgs false
namespace Go.Proofs.Ytlbdfhbkemikgaa.wheelExpires
open Go.ChangeShapes Go.WideShapes Go.ChangeAt Go.RowKit
open Plain

/-! ### plain -/
def expT (L : List Tm) (a k : Nat) : List Tm := (List.range k).flatMap (fun i => L.filter (fun t => decide (t.at_ = a + i)))
theorem expT_ids (L : List Tm) (a k : Nat) : ids (expT L a k) = expFrom L a k := by
  unfold ids expT expFrom
  rw [List.map_flatMap]; rfl
theorem expT_mem {L : List Tm} {a k : Nat} {t : Tm} : t ∈ expT L a k ↔ t ∈ L ∧ a ≤ t.at_ ∧ t.at_ < a + k := by
  unfold expT
  rw [List.mem_flatMap]
  constructor
  · rintro ⟨i, hi, ht⟩
    obtain ⟨h1, h2⟩ := List.mem_filter.1 ht
    have := List.mem_range.1 hi
    simp at h2
    exact ⟨h1, by omega, by omega⟩
  · rintro ⟨h1, h2, h3⟩
    exact ⟨t.at_ - a, List.mem_range.2 (by omega), List.mem_filter.2 ⟨h1, by simp; omega⟩⟩
theorem expT_succ (L : List Tm) (a k : Nat) : expT L a (k + 1) = expT L a k ++ L.filter (fun t => decide (t.at_ = a + k)) := by
  unfold expT
  rw [List.range_succ, List.flatMap_append]; simp
theorem expT_sorted {L : List Tm} (h : (ids L).Pairwise (· < ·)) (a : Nat) : ∀ k, (expT L a k).Pairwise (fun s t => s.at_ ≤ t.at_ ∧ s.id ≠ t.id)
  | 0 => List.Pairwise.nil
  | k + 1 => by
    rw [expT_succ, List.pairwise_append]
    refine ⟨expT_sorted h a k, ?_, fun s hs t ht => ?_⟩
    · have h1 : L.Pairwise (fun s t => s.id < t.id) := List.pairwise_map.1 h
      refine List.Pairwise.imp_of_mem ?_ (h1.sublist List.filter_sublist)
      intro s t hs ht hlt
      have a1 := (List.mem_filter.1 hs).2
      have a2 := (List.mem_filter.1 ht).2
      simp at a1 a2
      exact ⟨by omega, by omega⟩
    · obtain ⟨h1, h2, h3⟩ := expT_mem.1 hs
      obtain ⟨h4, h5⟩ := List.mem_filter.1 ht
      simp at h5
      refine ⟨by omega, fun e => ?_⟩
      have := ids_inj h s h1 t h4 e
      subst this; omega

/-- what the row 'at' says of the timers. -/
structure R (L : List Tm) (a : List Int) : Prop where
  at_ : ∀ t ∈ L, a[t.id]? = some (t.at_ : Int)
  has : ∀ k x, a[k]? = some x → 0 ≤ x → ∃ t ∈ L, t.id = k

theorem R.nil : R [] [] := ⟨fun t h => by simp at h, fun k x h => by simp at h⟩
theorem R.add {L : List Tm} {a : List Int} (h : R L a) (n : Nat) (what : Int) : R (L ++ [⟨a.length, n, what⟩]) (a ++ [(n : Int)]) := by
  refine ⟨fun t ht => ?_, fun k x hx h0 => ?_⟩
  · rcases List.mem_append.1 ht with h1 | h1
    · have := h.at_ t h1
      have hl := (List.getElem?_eq_some_iff.1 this).1
      rw [List.getElem?_append_left hl]; exact this
    · obtain rfl := List.mem_singleton.1 h1
      simp
  · by_cases c : k < a.length
    · rw [List.getElem?_append_left c] at hx
      obtain ⟨t, h1, h2⟩ := h.has k x hx h0
      exact ⟨t, List.mem_append_left _ h1, h2⟩
    · have : k < (a ++ [(n : Int)]).length := (List.getElem?_eq_some_iff.1 hx).1
      simp at this
      exact ⟨_, List.mem_append_right _ (List.mem_singleton.2 rfl), by show a.length = k; omega⟩
theorem R.drop {L : List Tm} {a : List Int} (h : R L a) (k : Nat) : R (L.filter (fun t => decide (t.id ≠ k))) (a.set k (-1)) := by
  refine ⟨fun t ht => ?_, fun j x hx h0 => ?_⟩
  · obtain ⟨h1, h2⟩ := List.mem_filter.1 ht
    simp at h2
    rw [List.getElem?_set_ne (fun e => h2 e.symm)]
    exact h.at_ t h1
  · by_cases e : k = j
    · subst e
      rw [List.getElem?_set] at hx
      simp at hx
      omega
    · rw [List.getElem?_set_ne e] at hx
      obtain ⟨t, h1, h2⟩ := h.has j x hx h0
      exact ⟨t, List.mem_filter.2 ⟨h1, by simp; omega⟩, h2⟩
theorem R.congr {L L' : List Tm} {a : List Int} (h : R L a) (e : L = L') : R L' a := e ▸ h

/-- all of them are in order. -/
def Fine (a : List Int) : Prop := ∀ x ∈ a, -1 ≤ x ∧ x ≤ 5000
theorem Fine.set {a : List Int} (h : Fine a) (k : Nat) : Fine (a.set k (-1)) := fun x hx => by
  rcases List.mem_or_eq_of_mem_set hx with h1 | h1
  · exact h x h1
  · omega
theorem Fine.add {a : List Int} (h : Fine a) (n : Nat) (hn : n ≤ 5000) : Fine (a ++ [(n : Int)]) := fun x hx => by
  rcases List.mem_append.1 hx with h1 | h1
  · exact h x h1
  · obtain rfl := List.mem_singleton.1 h1; omega
theorem Fine.get {a : List Int} (h : Fine a) {k : Nat} {x : Int} (hx : a[k]? = some x) : -1 ≤ x ∧ x ≤ 5000 := h x (List.mem_of_getElem? hx)

theorem filter_take (L : List Tm) (E : List Nat) (q id : Nat) (h : E[q]? = some id) :
    (L.filter (fun t => decide (t.id ∉ E.take q))).filter (fun t => decide (t.id ≠ id)) = L.filter (fun t => decide (t.id ∉ E.take (q + 1))) := by
  rw [List.filter_filter]
  refine List.filter_congr (fun t _ => ?_)
  have e : E.take (q + 1) = E.take q ++ [id] := by
    obtain ⟨hq, rfl⟩ := List.getElem?_eq_some_iff.1 h
    rw [List.take_succ_eq_append_getElem hq]
  rw [e]
  by_cases c1 : t.id ∈ E.take q <;> by_cases c2 : t.id = id <;> simp [c1, c2]

theorem filter_all {L : List Tm} (h : (ids L).Pairwise (· < ·)) {now d : Nat} (hn : ∀ t ∈ L, now ≤ t.at_) :
    L.filter (fun t => decide (t.id ∉ ids (expT L now (d + 1)))) = L.filter (fun t => decide (now + d < t.at_)) := by
  refine List.filter_congr (fun t ht => ?_)
  refine decide_eq_decide.2 ⟨fun hm => ?_, fun hm hc => ?_⟩
  · have h1 := hn t ht
    by_cases c : now + d < t.at_
    · exact c
    · exact absurd (List.mem_map.2 ⟨t, expT_mem.2 ⟨ht, h1, by omega⟩, rfl⟩) hm
  · obtain ⟨u, hu, e⟩ := List.mem_map.1 hc
    obtain ⟨h1, h2, h3⟩ := expT_mem.1 hu
    have := ids_inj h u h1 t ht e
    subst this; omega

/-! ### the row 'at' in memory -/
def SlI (w : World) (v : Value) (l : List Int) : Prop := w.ownsRow 0 3 1 v l.length (l.map (Value.int .i64))
theorem SlI.nil (w : World) : SlI w (.slice none 0 0) [] := World.ownsRow_nil w 0 3 1
theorem SlI.lt {w : World} {v : Value} {l : List Int} (h : SlI w v l) {g : Nat} (hg : v.ownBlock = some g) : g < w.heap.size := (World.ownsRow.lt h g hg).2
theorem SlI.of_block {w w' : World} {v : Value} {l : List Int} (h : SlI w v l) (e : ∀ g, v.ownBlock = some g → w'.heap[g]? = w.heap[g]?) : SlI w' v l := by
  refine ⟨h.1, ?_⟩
  rcases h.2 with h' | ⟨g, cap, cur, hv, hB, hg, r⟩
  · exact .inl h'
  · exact .inr ⟨g, cap, cur, hv, hB, (e g (by rw [hv]; rfl)).trans hg, r⟩
theorem sli_cases {w : World} {v : Value} {l : List Int} (h : SlI w v l) : (v = .slice none 0 0 ∧ l = []) ∨ ∃ g c, v = .slice (some ⟨g, 0, none⟩) l.length c := by
  rcases h.2 with ⟨h1, h2⟩ | ⟨g, cap, cur, hv, _⟩
  · exact .inl ⟨h1, by simpa using h2⟩
  · exact .inr ⟨g, cap, hv⟩
theorem sli_shape {w : World} {v : Value} {l : List Int} (h : SlI w v l) : ∃ A c, v = .slice A l.length c ∧ (0 < l.length → ∃ g, A = some ⟨g, 0, none⟩) := by
  rcases sli_cases h with ⟨h1, h2⟩ | ⟨g, c, h1⟩
  · exact ⟨none, 0, by rw [h1, h2]; rfl, fun hp => by rw [h2] at hp; simp at hp⟩
  · exact ⟨_, c, h1, fun _ => ⟨g, rfl⟩⟩
theorem sli_cell {w : World} {g n c : Nat} {l : List Int} (h : SlI w (.slice (some ⟨g, 0, none⟩) n c) l) {k : Nat} {x : Int} (hk : l[k]? = some x) : w.cell? ⟨g, k, none⟩ = some (.int .i64 x) := by
  have := World.ownsRow.cells h (g := g) rfl k (.int .i64 x) (by rw [List.getElem?_map, hk]; rfl)
  have e : (⟨g, 0, none⟩ : Addr).add k = ⟨g, k, none⟩ := by unfold Addr.add; split <;> simp_all
  rw [e] at this
  exact this
theorem sli_free {w : World} {g n c : Nat} {l : List Int} (h : SlI w (.slice (some ⟨g, 0, none⟩) n c) l) (k : Nat) : w.frozen? ⟨g, k, none⟩ = false := by
  rcases h.2 with ⟨h1, _⟩ | ⟨g', cap, cur, hv, _, hg, _⟩
  · cases h1
  · have e : g = g' := by injection hv with h1; injection h1 with h1; injection h1
    subst e
    simp [World.frozen?, hg]
theorem SlI.set {w : World} {g n c : Nat} {l : List Int} (h : SlI w (.slice (some ⟨g, 0, none⟩) n c) l) {k : Nat} (hk : k < l.length) (x : Int) : SlI (w.setCell ⟨g, k, none⟩ (.int .i64 x)) (.slice (some ⟨g, 0, none⟩) n c) (l.set k x) := by
  refine ⟨by simp, ?_⟩
  rcases h.2 with ⟨h1, _⟩ | ⟨g', cap, cur, hv, hB, hg, h1, h2, h3, h4⟩
  · cases h1
  · have e : g = g' := by injection hv with h1; injection h1 with h1; injection h1
    subst e
    have hn : n = l.length := by injection hv
    have hc : c = cap := by injection hv
    subst hc; subst hn
    refine .inr ⟨g, c, cur.setIfInBounds k (.int .i64 x), by simp, hB, ?_, by simpa using h1, h2, by simp [h3], ?_⟩
    · simp [World.setCell, Array.getElem?_modify, hg]
    · rw [Array.toList_setIfInBounds, List.length_set, List.take_set, h4, List.map_set]

/-- 'append(at, k)'. -/
theorem Try.intInfo' : (Try.prog.info? 3).map (fun i => (i.zero, i.size, i.bytes)) = some (some (.int .i64 0), 1, 8) := by kernel_rfl
theorem wp_append_int {ops : Array Oper} {rest : List Oper} {o : Oper} {a : Act} {Q : Exit → Act → World → Prop} (hgd : o.guard = none) (s x : Operand)
    (ho : o.op = .call { callee := .builtin .append, args := #[s, x], argTypes := #[22, 22] }) (v : Value) (l : List Int) (W : World) (hv : SlI W v l) (k : Int) (hs : a.eval s = v)
    (hx : a.eval x = .slice (some ⟨W.heap.size, 0, none⟩) 1 1) (hlen : l.length < 1099511627776)
    (h : ∀ v' w', SlI w' v' (l ++ [k]) → W.grownBy w' v.ownBlock → (∀ g, v'.ownBlock = some g → v.ownBlock = some g ∨ W.heap.size ≤ g) → wpList Try.prog ops Q rest (a.put o.dst v') w') :
    wpList Try.prog ops Q (o :: rest) a (W.alloc (.cells #[.int .i64 k] 3)) := by
  obtain ⟨i0, hi, hz0, hz1, hz2⟩ := info_parts Try.intInfo'
  refine wpList_append_own_at _ hgd s x 22 ho 0 3 i0 (.int .i64 0) 1 8 Try.underlying22 hi hz0 hz1 hz2 rfl (by decide) v l.length (l.map (Value.int .i64)) hs (World.ownsRow.alloc hv _) ⟨W.heap.size, 0, none⟩ 1 1 [.int .i64 k] hx rfl (cell_one_new W (.int .i64 k) 3)
    (by simp [Value.oneCell']) (by unfold maxLen; omega) (by omega) (Nat.zero_le _) ?_
  intro v' w' h1 h2 _ h3
  refine h v' w' ?_ ((World.grownBy_alloc W _ _).trans h2) (fun g hg => ?_)
  · unfold SlI; rw [List.map_append, List.length_append]; exact h1
  · rcases h3 with h3 | h3
    · exact .inl (h3 ▸ hg)
    · rw [h3] at hg
      simp at hg
      exact .inr (by omega)

/-! ### the wheel and the row -/
def ESt (w0 w : World) (p m now i : Nat) (L : List Tm) (v : Value) (a : List Int) : Prop :=
  ∃ V S, St w0 w p m V S ∧ (S.now = now ∧ S.next = i ∧ S.most = 500 ∧ S.live = L) ∧ SlI w v a ∧ ∀ g, v.ownBlock = some g → w0.heap.size ≤ g ∧ ¬ foot p m V g

section
variable {w0 w w' : World} {p m now i : Nat} {L : List Tm} {v : Value} {a : List Int}

theorem ESt.kept (h : ESt w0 w p m now i L v a) : Keep Nothing w0 w := by
  obtain ⟨V, S, h, _⟩ := h
  exact h.2.2.1
theorem ESt.keep (h : ESt w0 w p m now i L v a) (hk : Keep Nothing w w') : ESt w0 w' p m now i L v a := by
  obtain ⟨V, S, h, r, hv, ho⟩ := h
  exact ⟨V, S, h.keep hk, r, hv.of_block (fun g hg => hk.block g (hv.lt hg) (fun h => h)), ho⟩
theorem ESt.facts (h : ESt w0 w p m now i L v a) : (ids L).Pairwise (· < ·) ∧ (∀ t ∈ L, now ≤ t.at_) ∧ L.length ≤ i := by
  obtain ⟨V, S, h, ⟨rfl, rfl, _, rfl⟩, _⟩ := h
  have hm := h.2.2.2.mid
  refine ⟨hm.inc, fun t ht => (hm.far t ht).1, ?_⟩
  have := inc_len S.next (ids S.live) 0 hm.inc (fun x hx => by
    obtain ⟨t, ht, rfl⟩ := List.mem_map.1 hx
    exact ⟨Nat.zero_le _, hm.lt_ t ht⟩)
  simpa [ids] using this
theorem ESt.row (h : ESt w0 w p m now i L v a) : SlI w v a := by
  obtain ⟨V, S, _, _, hv, _⟩ := h
  exact hv

/-- a step of the wheel. -/
theorem e_step {V V' : Nat → Value} {S' : WS} (hv : SlI w v a) (ho : ∀ g, v.ownBlock = some g → w0.heap.size ≤ g ∧ ¬ foot p m V g) (hst : St w0 w' p m V' S') (hs : Step p m w V w' V') (e : S'.now = now ∧ S'.next = i ∧ S'.most = 500 ∧ S'.live = L) :
    ESt w0 w' p m now i L v a := by
  refine ⟨V', S', hst, e, hv.of_block (fun g hg => hs.keep.block g (hv.lt hg) (ho g hg).2), fun g hg => ⟨(ho g hg).1, fun hf => ?_⟩⟩
  rcases hs.sub g hf with h | h
  · exact (ho g hg).2 h
  · have := hv.lt hg; omega

theorem e_start (h : ESt w0 w p m now i L v a) (hi : i < 500) (hn : now ≤ 1000000) (n : Nat) (hn1 : n ≤ 1000000) :
    Calls Try.prog 12 #[.pointer (some ⟨p, 0, none⟩), .int .i64 (n : Int), .int .i64 0] w (fun e w' => e = .returned (.tuple #[.int .i64 (i : Int), .nilIface]) ∧ ESt w0 w' p m now (i + 1) (L ++ [⟨i, now + n, 0⟩]) v a) := by
  have hL := h.facts.2.2
  obtain ⟨V, S, h, ⟨h1, h2, h3, h4⟩, hv, ho⟩ := h
  refine (startSt h (by omega) (by omega) n (by omega) 0 (by rw [h4]; omega) (by omega)).mono ?_
  rintro e w' ⟨rfl, V1, ha, hs⟩
  obtain ⟨f1, f2, f3, f4⟩ := startS_facts S n 0
  exact ⟨by rw [h2], e_step hv ho ha hs ⟨by rw [f1, h1], by rw [f2, h2], by rw [f3, h3], by rw [f4, h1, h2, h4]⟩⟩

theorem e_cancel (h : ESt w0 w p m now i L v a) (hi : i ≤ 500) (hn : now ≤ 1000000) {t : Tm} (ht : t ∈ L) :
    Calls Try.prog 18 #[.pointer (some ⟨p, 0, none⟩), .int .i64 (t.id : Int)] w (fun e w' => e = .returned (.tuple #[.int .i64 ((t.at_ : Int) - now), .nilIface]) ∧ ESt w0 w' p m now i (L.filter (fun u => decide (u.id ≠ t.id))) v a) := by
  obtain ⟨V, S, h, ⟨h1, h2, h3, h4⟩, hv, ho⟩ := h
  refine (cancel_some w p m V S h.1 (h.2.2.2.mid.ok (by omega) (by omega)) t (by rw [h4]; exact ht)).mono ?_
  rintro e w' ⟨rfl, V1, hw, hs⟩
  exact ⟨by rw [h1], e_step hv ho (h.step hw hs (drop_rest h.2.2.2 _)) hs ⟨h1, h2, h3, by rw [← h4]; rfl⟩⟩

theorem e_none (h : ESt w0 w p m now i L v a) (hi : i ≤ 500) (hn : now ≤ 1000000) (k : Nat) (hk : k < 500) (hno : ∀ t ∈ L, t.id ≠ k) :
    Calls Try.prog 18 #[.pointer (some ⟨p, 0, none⟩), .int .i64 (k : Int)] w (fun e w' => ∃ g, e = .returned (.tuple #[.int .i64 0, .iface 97 (.pointer (some ⟨g, 0, none⟩))]) ∧ ESt w0 w' p m now i L v a) := by
  have h' := h
  obtain ⟨V, S, h, ⟨h1, h2, h3, h4⟩, hv, ho⟩ := h
  refine (cancel_none w p m V S h.1 (h.2.2.2.mid.ok (by omega) (by omega)) k (by omega) (by omega) (fun t ht e => hno t (by rw [← h4]; exact ht) (by omega))).mono ?_
  rintro e w' ⟨g, rfl, _, _, hk⟩
  exact ⟨g, rfl, h'.keep hk⟩

theorem e_tick (h : ESt w0 w p m now i L v a) (hi : i ≤ 500) (hn : now ≤ 1000000) (d : Nat) (hd : d ≤ 1048576) :
    Calls Try.prog 11 #[.pointer (some ⟨p, 0, none⟩), .int .i64 (d : Int)] w (fun e w' => ∃ u, e = .returned u ∧ ESt w0 w' p m (now + d) i (L.filter (fun t => decide (now + d < t.at_))) v a ∧ Sl w' u (expFrom L now (d + 1)) ∧ ∀ g, u.ownBlock = some g → v.ownBlock ≠ some g) := by
  obtain ⟨V, S, h, ⟨h1, h2, h3, h4⟩, hv, ho⟩ := h
  refine (tickSt h (by omega) (by omega) d (by omega) (by omega)).mono ?_
  rintro e w' ⟨u, V1, S1, rfl, hst, ha, hs, hu, hou⟩
  have t : ticksOf (d : Int) = d := by unfold ticksOf; omega
  rw [t] at ha hu
  rw [h1, h4] at hu
  exact ⟨u, rfl, e_step hv ho hst hs ⟨by rw [ha.now, h1], by rw [ha.next, h2], by rw [ha.most, h3], by rw [ha.live, h1, h4]⟩, hu, fun g hg hg' => by
    have := hv.lt hg'
    have := (hou g hg).1
    omega⟩

theorem e_append (h : ESt w0 w p m now i L v a) {v' : Value} {a' : List Int} (hs : SlI w' v' a') (hg : w.grownBy w' v.ownBlock) (ho' : ∀ g, v'.ownBlock = some g → v.ownBlock = some g ∨ w.heap.size ≤ g) :
    ESt w0 w' p m now i L v' a' := by
  obtain ⟨V, S, h, r, hv, ho⟩ := h
  have hblk : ∀ k, k < w.heap.size → foot p m V k → w'.heap[k]? = w.heap[k]? := fun k hk hf => hg.block k hk (fun e => (ho k e.symm).2 hf)
  refine ⟨V, S, ⟨h.1.same (fun k hk => hblk k (h.1.foot_lt hk) hk), h.2.1, h.2.2.1.grown hg (fun k e hk => by have := (ho k e).1; omega), h.2.2.2⟩, r, hs, fun g hg' => ?_⟩
  rcases ho' g hg' with h' | h'
  · exact ho g h'
  · exact ⟨Nat.le_trans h.2.2.1.size h', fun hf => by have := h.1.foot_lt hf; omega⟩

theorem e_set {g n c : Nat} (h : ESt w0 w p m now i L (.slice (some ⟨g, 0, none⟩) n c) a) {k : Nat} (hk : k < a.length) (x : Int) :
    ESt w0 (w.setCell ⟨g, k, none⟩ (.int .i64 x)) p m now i L (.slice (some ⟨g, 0, none⟩) n c) (a.set k x) := by
  obtain ⟨V, S, h, r, hv, ho⟩ := h
  have hg := ho g rfl
  exact ⟨V, S, ⟨h.1.far hg.2 _, h.2.1, h.2.2.1.setCell (fun hl => by have : g < w0.heap.size := hl; omega) _, h.2.2.2⟩, r, hv.set hk x, ho⟩
end

def E1 (w : World) (p m NN : Nat) (v i : Value) (wr : World) : Prop :=
  ∃ (k : Nat) (L : List Tm) (a : List Int), k ≤ NN ∧ i = .int .i64 (k : Int) ∧ ESt w wr p m 0 k L v a ∧ R L a ∧ a.length = k ∧ Fine a
def E2 (w : World) (p m N n1 : Nat) (v i : Value) (wr : World) : Prop :=
  ∃ (j : Nat) (L : List Tm) (a : List Int), j ≤ n1 ∧ i = .int .i64 (j : Int) ∧ ESt w wr p m 0 N L v a ∧ R L a ∧ a.length = N ∧ Fine a
def E3 (w : World) (p m N n2 : Nat) (v s i : Value) (wr : World) : Prop :=
  ∃ (j now : Nat) (L : List Tm) (a : List Int), j ≤ n2 ∧ j ≤ 100 ∧ now ≤ 800 * j ∧ i = .int .i64 (j : Int) ∧ s = .int .i64 (now : Int) ∧ ESt w wr p m now N L v a ∧ R L a ∧ a.length = N ∧ Fine a
/-- in the midst of the row of who is gone. 'L': the timers ahead of the tick. -/
def E4 (w : World) (p m N now d : Nat) (L : List Tm) (u v last i : Value) (wr : World) : Prop :=
  ∃ (q : Nat) (a : List Int) (z : Int), q ≤ (expT L now (d + 1)).length ∧ i = .int .i64 (q : Int) ∧ last = .int .i64 z ∧ (∀ t ∈ expT L now (d + 1), ∀ k, (expT L now (d + 1))[k]? = some t → q ≤ k → z ≤ t.at_) ∧ (-1 ≤ z ∧ z ≤ 5000) ∧
    ESt w wr p m (now + d) N (L.filter (fun t => decide (now + d < t.at_))) v a ∧ R (L.filter (fun t => decide (t.id ∉ (ids (expT L now (d + 1))).take q))) a ∧ a.length = N ∧ Fine a ∧ Sl wr u (ids (expT L now (d + 1))) ∧ ∀ g, u.ownBlock = some g → v.ownBlock ≠ some g

theorem shape_ {w0 w : World} {p m now i : Nat} {L : List Tm} {v : Value} {a : List Int} {N : Nat} (h : ESt w0 w p m now i L v a) (hN : a.length = N) : ∃ A c, v = .slice A N c ∧ (0 < N → ∃ g, A = some ⟨g, 0, none⟩) := by
  subst hN; exact sli_shape h.row
theorem exp_short' (L : List Tm) (a k : Nat) : (expFrom L a k).length ≤ L.length := Nat.le_trans (expFrom_len L a k) (List.length_filter_le _ _)
theorem shape_u {w : World} {u : Value} {E : List Tm} (h : Sl w u (ids E)) : ∃ A c, u = .slice A E.length c ∧ (0 < E.length → ∃ g, A = some ⟨g, 0, none⟩) := by
  have := sl_shape h
  rw [show (ids E).length = E.length by simp [ids]] at this
  exact this

theorem short_T (L : List Tm) (a k : Nat) : (expT L a k).length ≤ L.length := by
  have := exp_short' L a k
  rw [← expT_ids] at this
  simpa [ids] using this

theorem later_at {L : List Tm} {now d : Nat} (h : (ids L).Pairwise (· < ·)) {q k : Nat} {t s : Tm} (ht : (expT L now (d + 1))[q]? = some t) (hs : (expT L now (d + 1))[k]? = some s) (hqk : q < k) : t.at_ ≤ s.at_ := by
  obtain ⟨h1, rfl⟩ := List.getElem?_eq_some_iff.1 ht
  obtain ⟨h2, rfl⟩ := List.getElem?_eq_some_iff.1 hs
  exact (List.pairwise_iff_getElem.1 (expT_sorted h now (d + 1)) q k h1 h2 hqk).1

theorem mid_facts {L : List Tm} {now d : Nat} (h : (ids L).Pairwise (· < ·)) {q : Nat} {t : Tm} (ht : (expT L now (d + 1))[q]? = some t) {a : List Int} (hr : R (L.filter (fun t => decide (t.id ∉ (ids (expT L now (d + 1))).take q))) a) :
    t ∈ L ∧ now ≤ t.at_ ∧ t.at_ ≤ now + d ∧ t.id ∉ (ids (expT L now (d + 1))).take q ∧ a[t.id]? = some (t.at_ : Int) := by
  obtain ⟨h1, h2, h3⟩ := expT_mem.1 (List.mem_of_getElem? ht)
  have h4 : t.id ∉ (ids (expT L now (d + 1))).take q := fun hm => by
    obtain ⟨k, hk⟩ := List.getElem?_of_mem hm
    have hkq : k < q := by
      have := (List.getElem?_eq_some_iff.1 hk).1
      simp at this; omega
    rw [List.getElem?_take_of_lt hkq] at hk
    unfold ids at hk
    rw [List.getElem?_map] at hk
    obtain ⟨s, hs, e⟩ := Option.map_eq_some_iff.1 hk
    obtain ⟨b1, rfl⟩ := List.getElem?_eq_some_iff.1 ht
    obtain ⟨b2, rfl⟩ := List.getElem?_eq_some_iff.1 hs
    exact (List.pairwise_iff_getElem.1 (expT_sorted h now (d + 1)) k q b2 b1 hkq).2 e
  exact ⟨h1, h2, by omega, h4, hr.at_ t (List.mem_filter.2 ⟨h1, by simpa using h4⟩)⟩
end Go.Proofs.Ytlbdfhbkemikgaa.wheelExpires

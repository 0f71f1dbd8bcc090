/- Plain: what a tick does to a wheel that is in order. -/
import Derived.Test.YtlbdfhbkemikgaaWalkG
set_option linter.unusedVariables false
set_option linter.unusedSimpArgs false
namespace Go.Proofs.Ytlbdfhbkemikgaa
open Plain

def tot (S : WS) : Nat := many S.slot 0 1024 + S.due.length

/-- who is put. -/
theorem putOne_in {S : WS} {x : Nat} {j id : Nat} (h : id ∈ (putOne S x).slot j) : id ∈ S.slot j ∨ (id = x ∧ ∃ t ∈ S.live, t.id = x ∧ j = place S.now t.at_) := by
  unfold putOne at h
  split at h
  · rename_i t ht
    have h1 := List.mem_of_find?_eq_some ht
    have h2 := List.find?_some ht
    simp at h2
    unfold put upd at h
    simp only at h
    split at h
    · rename_i e
      rcases List.mem_append.1 h with h | h
      · exact .inl (e ▸ h)
      · simp at h
        exact .inr ⟨h, t, h1, h2, e⟩
    · exact .inl h
  · exact .inl h

theorem putOne_old {S : WS} {x : Nat} {j id : Nat} (h : id ∈ S.slot j) : id ∈ (putOne S x).slot j := by
  unfold putOne
  split
  · unfold put upd
    simp only
    split
    · rename_i e; subst e; exact List.mem_append_left _ h
    · exact h
  · exact h

theorem putOne_new {S : WS} (hi : (ids S.live).Pairwise (· < ·)) {t : Tm} (ht : t ∈ S.live) : t.id ∈ (putOne S t.id).slot (place S.now t.at_) := by
  unfold putOne
  rw [find_live hi ht]
  unfold put upd
  simp

theorem putAll_cons (S : WS) (x : Nat) (l : List Nat) : putAll S (x :: l) = putAll (putOne S x) l := rfl

theorem putAll_in : ∀ (l : List Nat) (S : WS) {j id : Nat}, id ∈ (putAll S l).slot j → id ∈ S.slot j ∨ (id ∈ l ∧ ∃ t ∈ S.live, t.id = id ∧ j = place S.now t.at_)
  | [], S, j, id, h => .inl h
  | x :: l, S, j, id, h => by
    rcases putAll_in l (putOne S x) h with h | ⟨h1, t, ht, h2⟩
    · rcases putOne_in h with h | ⟨rfl, t, ht, h2, h3⟩
      · exact .inl h
      · exact .inr ⟨List.mem_cons_self, t, ht, h2, h3⟩
    · rw [putOne_live] at ht
      rw [putOne_now] at h2
      exact .inr ⟨List.mem_cons_of_mem _ h1, t, ht, h2⟩

theorem putAll_old : ∀ (l : List Nat) (S : WS) {j id : Nat}, id ∈ S.slot j → id ∈ (putAll S l).slot j
  | [], S, j, id, h => h
  | x :: l, S, j, id, h => putAll_old l (putOne S x) (putOne_old h)

theorem putAll_new : ∀ (l : List Nat) (S : WS) (_ : (ids S.live).Pairwise (· < ·)) {t : Tm}, t ∈ S.live → t.id ∈ l → t.id ∈ (putAll S l).slot (place S.now t.at_)
  | [], S, _, t, _, h => by simp at h
  | x :: l, S, hi, t, ht, h => by
    rw [putAll_cons]
    by_cases e : t.id = x
    · subst e
      exact putAll_old l _ (putOne_new hi ht)
    · have h' : t.id ∈ l := by rcases List.mem_cons.1 h with h | h; exact absurd h e; exact h
      have := putAll_new l (putOne S x) (by rw [putOne_live]; exact hi) (by rw [putOne_live]; exact ht) h'
      rwa [putOne_now] at this

theorem place_lt (n a : Nat) : place n a < 1024 := by unfold place; split; omega; split; omega; split <;> omega

/-- the counts hold. -/
structure Cnt (S : WS) : Prop where
  c0 : S.m0 = many S.slot 768 256
  c1 : S.m1 = many S.slot 512 256
  c2 : S.m2 = many S.slot 256 256

theorem Cnt.putOne {S : WS} (h : Cnt S) (x : Nat) : Cnt (putOne S x) := by
  unfold Ytlbdfhbkemikgaa.putOne
  split
  · obtain ⟨h1, h2, h3⟩ := put_counts (id := x) (a := _) h.c0 h.c1 h.c2
    exact ⟨h1, h2, h3⟩
  · exact h
theorem Cnt.putAll : ∀ (l : List Nat) {S : WS}, Cnt S → Cnt (putAll S l)
  | [], S, h => h
  | x :: l, S, h => Cnt.putAll l (h.putOne x)

theorem tot_put (S : WS) (id a : Nat) : tot (put S id a) = tot S + 1 := by
  unfold tot
  have h := many_upd_in (f := S.slot) (b := 0) (j := place S.now a) (l := S.slot (place S.now a) ++ [id]) 1024 (by omega) (by have := place_lt S.now a; omega)
  rw [List.length_append, List.length_singleton] at h
  show many (upd S.slot (place S.now a) (S.slot (place S.now a) ++ [id])) 0 1024 + S.due.length = _
  omega
theorem tot_putOne (S : WS) (x : Nat) : tot (putOne S x) ≤ tot S + 1 := by
  unfold putOne
  split
  · rw [tot_put]; omega
  · omega
theorem tot_putAll : ∀ (l : List Nat) (S : WS), tot (putAll S l) ≤ tot S + l.length
  | [], S => by show tot S ≤ _; simp
  | x :: l, S => by
    have h1 := tot_putAll l (putOne S x)
    have h2 := tot_putOne S x
    rw [putAll_cons, List.length_cons]
    omega

theorem putAll_next (S : WS) : ∀ l, (putAll S l).next = S.next ∧ (putAll S l).most = S.most ∧ (putAll S l).due = S.due := by
  intro l
  induction l generalizing S with
  | nil => exact ⟨rfl, rfl, rfl⟩
  | cons x l ih =>
    obtain ⟨h1, h2, h3⟩ := ih (putOne S x)
    rw [putAll_cons, h1, h2, h3]
    unfold putOne
    split <;> exact ⟨rfl, rfl, rfl⟩

/-- a wheel in order, its slots by a relation 'P' (of a timer's time and its slot). 'dl': the due. -/
structure Mid (S : WS) (P : Nat → Nat → Prop) : Prop where
  inc : (ids S.live).Pairwise (· < ·)
  lt_ : ∀ t ∈ S.live, t.id < S.next
  far : ∀ t ∈ S.live, S.now ≤ t.at_ ∧ t.at_ ≤ S.now + 1073741824
  fit : ∀ j, j < 1024 → ∀ t ∈ S.live, t.id ∈ S.slot j → P t.at_ j
  has : ∀ t ∈ S.live, t.id ∉ S.due → ∃ j, j < 1024 ∧ t.id ∈ S.slot j
  slt : ∀ j, j < 1024 → ∀ id ∈ S.slot j, id < S.next
  dlt : ∀ id ∈ S.due, id < S.next
  cnt : Cnt S
  tot : tot S ≤ S.next

theorem many_ge (f : Nat → List Nat) (b : Nat) : ∀ k j, b ≤ j → j < b + k → (f j).length ≤ many f b k
  | 0, j, h1, h2 => by omega
  | k + 1, j, h1, h2 => by
    rw [many]
    by_cases e : j = b + k
    · subst e; omega
    · have := many_ge f b k j h1 (by omega); omega

theorem many_sub (f : Nat → List Nat) (b : Nat) : ∀ k K, b + k ≤ K → many f b k ≤ many f 0 K
  | k, 0, h => by obtain rfl : k = 0 := by omega
                  exact Nat.le_refl _
  | 0, K + 1, _ => Nat.zero_le _
  | k + 1, K + 1, h => by
    rw [many, many]
    by_cases e : b + k = K
    · have := many_sub f b k K (by omega)
      rw [e, Nat.zero_add]; omega
    · have := many_sub f b (k + 1) K (by omega)
      rw [many] at this; omega

theorem Mid.ok {S : WS} {P : Nat → Nat → Prop} (h : Mid S P) (hn : S.now < 400000000000) (hx : S.next < 400000000000) : Ok S := by
  have ht := h.tot
  unfold Ytlbdfhbkemikgaa.tot at ht
  have s0 := many_sub S.slot 768 256 1024 (by omega)
  have s1 := many_sub S.slot 512 256 1024 (by omega)
  have s2 := many_sub S.slot 256 256 1024 (by omega)
  have c0 := h.cnt.c0; have c1 := h.cnt.c1; have c2 := h.cnt.c2
  refine ⟨by omega, by omega, by omega, by omega, by omega, fun j hj => ?_, by omega, h.inc, h.lt_, fun t ht => ?_⟩
  · have := many_ge S.slot 0 1024 j (by omega) (by omega); omega
  · have := h.far t ht; omega

theorem taken_cnt {S : WS} (h : Cnt S) (lvl j : Nat) (hl : (lvl = 1 ∧ 512 ≤ j ∧ j < 768) ∨ (lvl = 2 ∧ 256 ≤ j ∧ j < 512) ∨ (lvl = 3 ∧ j < 256)) : Cnt (taken S lvl j) := by
  have h0 := h.c0; have h1 := h.c1; have h2 := h.c2
  rcases hl with ⟨rfl, a, b⟩ | ⟨rfl, a, b⟩ | ⟨rfl, a⟩
  · have e1 := many_upd_in (f := S.slot) (b := 512) (j := j) (l := []) 256 (by omega) (by omega)
    have e0 := many_upd_out (f := S.slot) (b := 768) (j := j) (l := []) 256 (by omega)
    have e2 := many_upd_out (f := S.slot) (b := 256) (j := j) (l := []) 256 (by omega)
    refine ⟨?_, ?_, ?_⟩
    · show S.m0 = (many (upd S.slot j []) 768 256 : Nat); rw [e0]; exact h0
    · show S.m1 - _ = ((many (upd S.slot j []) 512 256 : Nat) : Int); simp at e1; omega
    · show S.m2 = (many (upd S.slot j []) 256 256 : Nat); rw [e2]; exact h2
  · have e1 := many_upd_out (f := S.slot) (b := 512) (j := j) (l := []) 256 (by omega)
    have e0 := many_upd_out (f := S.slot) (b := 768) (j := j) (l := []) 256 (by omega)
    have e2 := many_upd_in (f := S.slot) (b := 256) (j := j) (l := []) 256 (by omega) (by omega)
    refine ⟨?_, ?_, ?_⟩
    · show S.m0 = (many (upd S.slot j []) 768 256 : Nat); rw [e0]; exact h0
    · show S.m1 = (many (upd S.slot j []) 512 256 : Nat); rw [e1]; exact h1
    · show S.m2 - _ = ((many (upd S.slot j []) 256 256 : Nat) : Int); simp at e2; omega
  · have e1 := many_upd_out (f := S.slot) (b := 512) (j := j) (l := []) 256 (by omega)
    have e0 := many_upd_out (f := S.slot) (b := 768) (j := j) (l := []) 256 (by omega)
    have e2 := many_upd_out (f := S.slot) (b := 256) (j := j) (l := []) 256 (by omega)
    refine ⟨?_, ?_, ?_⟩
    · show S.m0 = (many (upd S.slot j []) 768 256 : Nat); rw [e0]; exact h0
    · show S.m1 = (many (upd S.slot j []) 512 256 : Nat); rw [e1]; exact h1
    · show S.m2 = (many (upd S.slot j []) 256 256 : Nat); rw [e2]; exact h2

theorem taken_tot (S : WS) (lvl j : Nat) (hj : j < 1024) : tot (taken S lvl j) + (S.slot j).length = tot S := by
  have e := many_upd_in (f := S.slot) (b := 0) (j := j) (l := []) 1024 (by omega) (by omega)
  unfold tot
  show many (upd S.slot j []) 0 1024 + S.due.length + _ = _
  simp at e
  omega

/-- a slot is moved: the others fit by 'P'', and so do those that are put. -/
theorem Mid.moved {S : WS} {P P' : Nat → Nat → Prop} (h : Mid S P) (lvl j : Nat) (hl : (lvl = 1 ∧ 512 ≤ j ∧ j < 768) ∨ (lvl = 2 ∧ 256 ≤ j ∧ j < 512) ∨ (lvl = 3 ∧ j < 256))
    (h1 : ∀ a i, S.now ≤ a → P a i → i ≠ j → P' a i) (h2 : ∀ a, S.now ≤ a → a ≤ S.now + 1073741824 → P' a (place S.now a)) : Mid (moved S lvl j) P' := by
  have hj : j < 1024 := by omega
  have hnx := putAll_next (taken S lvl j) (S.slot j)
  have hlive : (Ytlbdfhbkemikgaa.moved S lvl j).live = S.live := putAll_live _ _
  have hnow : (Ytlbdfhbkemikgaa.moved S lvl j).now = S.now := moved_now S lvl j
  have hnext : (Ytlbdfhbkemikgaa.moved S lvl j).next = S.next := hnx.1
  have hdue : (Ytlbdfhbkemikgaa.moved S lvl j).due = S.due := hnx.2.2
  have hin : ∀ {i id}, id ∈ (Ytlbdfhbkemikgaa.moved S lvl j).slot i → (id ∈ S.slot i ∧ i ≠ j) ∨ (id ∈ S.slot j ∧ ∃ t ∈ S.live, t.id = id ∧ i = place S.now t.at_) := fun {i id} hi => by
    rcases putAll_in (S.slot j) (taken S lvl j) hi with h' | h'
    · have h'' : id ∈ upd S.slot j [] i := h'
      unfold upd at h''
      split at h''
      · simp at h''
      · exact .inl ⟨h'', by assumption⟩
    · exact .inr h'
  refine ⟨by rw [hlive]; exact h.inc, by rw [hlive, hnext]; exact h.lt_, by rw [hlive, hnow]; exact h.far, ?_, ?_, ?_, by rw [hdue, hnext]; exact h.dlt, Cnt.putAll _ (taken_cnt h.cnt lvl j hl), ?_⟩
  · intro i hi t ht hid
    rw [hlive] at ht
    have hf := h.far t ht
    rcases hin hid with ⟨h3, h4⟩ | ⟨h3, u, hu, h4, h5⟩
    · exact h1 _ _ hf.1 (h.fit i hi t ht h3) h4
    · have := ids_inj h.inc u hu t ht h4
      subst this
      rw [h5]
      exact h2 _ hf.1 hf.2
  · intro t ht hd
    rw [hlive] at ht
    rw [hdue] at hd
    obtain ⟨i, hi, h3⟩ := h.has t ht hd
    by_cases e : i = j
    · subst e
      exact ⟨_, place_lt _ _, putAll_new (S.slot i) (taken S lvl i) h.inc ht h3⟩
    · exact ⟨i, hi, putAll_old _ _ (by show t.id ∈ upd S.slot j [] i; unfold upd; rw [if_neg e]; exact h3)⟩
  · intro i hi id hid
    rw [hnext]
    rcases hin hid with ⟨h3, _⟩ | ⟨h3, _⟩
    · exact h.slt i hi id h3
    · exact h.slt j hj id h3
  · rw [hnext]
    have := tot_putAll (S.slot j) (taken S lvl j)
    have h3 := taken_tot S lvl j hj
    have h4 := h.tot
    unfold Ytlbdfhbkemikgaa.moved
    omega

theorem Mid.mok {S : WS} {P : Nat → Nat → Prop} (h : Mid S P) (hn : S.now < 400000000000) (hx : S.next < 400000000000) (lvl j : Nat)
    (hl : (lvl = 1 ∧ 512 ≤ j ∧ j < 768) ∨ (lvl = 2 ∧ 256 ≤ j ∧ j < 512) ∨ (lvl = 3 ∧ j < 256)) : MOk S lvl j := by
  have hj : j < 1024 := by omega
  have ok := h.ok hn hx
  have c := taken_cnt h.cnt lvl j hl
  have h4 := h.tot
  have h5 := taken_tot S lvl j hj
  have s0 := many_sub (taken S lvl j).slot 768 256 1024 (by omega)
  have s1 := many_sub (taken S lvl j).slot 512 256 1024 (by omega)
  have s2 := many_sub (taken S lvl j).slot 256 256 1024 (by omega)
  have c0 := c.c0; have c1 := c.c1; have c2 := c.c2
  unfold Ytlbdfhbkemikgaa.tot at h4 h5
  refine ⟨ok, ⟨ok.now, ok.next, ?_, ?_, ?_, fun i hi => ?_, ok.due, ok.inc, ok.lt_, ok.at_⟩, fun id hid => ?_⟩
  · omega
  · omega
  · omega
  · have := many_ge (taken S lvl j).slot 0 1024 i (by omega) (by omega); omega
  · have := h.slt j hj id hid; omega
end Go.Proofs.Ytlbdfhbkemikgaa

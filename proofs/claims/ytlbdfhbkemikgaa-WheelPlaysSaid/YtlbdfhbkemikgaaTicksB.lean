/- Plain: one tick, the ticks that are skipped, the ticks of a call. -/
import Derived.Test.YtlbdfhbkemikgaaTicks
set_option linter.unusedVariables false
set_option linter.unusedSimpArgs false
namespace Go.Proofs.Ytlbdfhbkemikgaa
open Plain

/-- a slot fits a time, with slack for the wheels whose slot is yet to be moved. -/
def FitE (n e3 e2 e1 a j : Nat) : Prop :=
  (j = 768 + a % 256 ∧ n ≤ a ∧ a < n + 256) ∨ (j = 512 + a / 256 % 256 ∧ n / 256 < a / 256 + e1 ∧ a / 256 + e1 ≤ n / 256 + 256) ∨
  (j = 256 + a / 65536 % 256 ∧ n / 65536 < a / 65536 + e2 ∧ a / 65536 + e2 ≤ n / 65536 + 256) ∨
  (j = a / 16777216 % 256 ∧ n / 16777216 < a / 16777216 + e3 ∧ a / 16777216 < n / 16777216 + 256)

theorem fit_A {now a j : Nat} (h : Fits now a j) (hn : (now + 1) % 16777216 = 0) : FitE (now + 1) 1 1 1 a j := by
  unfold Fits at h; unfold FitE
  rcases h with ⟨h0, h1, h2⟩ | ⟨h0, h1, h2⟩ | ⟨h0, h1, h2⟩ | ⟨h0, h1, h2⟩
  · exact .inl ⟨h0, by omega, by omega⟩
  · exact .inr (.inl ⟨h0, by omega, by omega⟩)
  · exact .inr (.inr (.inl ⟨h0, by omega, by omega⟩))
  · exact .inr (.inr (.inr ⟨h0, by omega, by omega⟩))

theorem fit_B {now a j : Nat} (h : Fits now a j) (hn0 : ¬ (now + 1) % 16777216 = 0) (hn : (now + 1) % 65536 = 0) : FitE (now + 1) 0 1 1 a j := by
  unfold Fits at h; unfold FitE
  rcases h with ⟨h0, h1, h2⟩ | ⟨h0, h1, h2⟩ | ⟨h0, h1, h2⟩ | ⟨h0, h1, h2⟩
  · exact .inl ⟨h0, by omega, by omega⟩
  · exact .inr (.inl ⟨h0, by omega, by omega⟩)
  · exact .inr (.inr (.inl ⟨h0, by omega, by omega⟩))
  · exact .inr (.inr (.inr ⟨h0, by omega, by omega⟩))

theorem fit_C {now a j : Nat} (h : Fits now a j) (hn0 : ¬ (now + 1) % 65536 = 0) (hn : (now + 1) % 256 = 0) : FitE (now + 1) 0 0 1 a j := by
  unfold Fits at h; unfold FitE
  rcases h with ⟨h0, h1, h2⟩ | ⟨h0, h1, h2⟩ | ⟨h0, h1, h2⟩ | ⟨h0, h1, h2⟩
  · exact .inl ⟨h0, by omega, by omega⟩
  · exact .inr (.inl ⟨h0, by omega, by omega⟩)
  · exact .inr (.inr (.inl ⟨h0, by omega, by omega⟩))
  · exact .inr (.inr (.inr ⟨h0, by omega, by omega⟩))

theorem fit_D {now a j : Nat} (h : Fits now a j) (hn0 : ¬ (now + 1) % 256 = 0) : FitE (now + 1) 0 0 0 a j := by
  unfold Fits at h; unfold FitE
  rcases h with ⟨h0, h1, h2⟩ | ⟨h0, h1, h2⟩ | ⟨h0, h1, h2⟩ | ⟨h0, h1, h2⟩
  · exact .inl ⟨h0, by omega, by omega⟩
  · exact .inr (.inl ⟨h0, by omega, by omega⟩)
  · exact .inr (.inr (.inl ⟨h0, by omega, by omega⟩))
  · exact .inr (.inr (.inr ⟨h0, by omega, by omega⟩))

theorem place_fitE {n e2 e1 a : Nat} (h1 : n ≤ a) (h2 : a ≤ n + 1073741824) (he1 : e1 = 0 ∨ e1 = 1 ∧ n % 256 = 0) (he2 : e2 = 0 ∨ e2 = 1 ∧ n % 65536 = 0) : FitE n 0 e2 e1 a (place n a) := by
  unfold place FitE
  split
  · exact .inl ⟨rfl, h1, by omega⟩
  · split
    · exact .inr (.inl ⟨rfl, by omega, by omega⟩)
    · split
      · exact .inr (.inr (.inl ⟨rfl, by omega, by omega⟩))
      · exact .inr (.inr (.inr ⟨rfl, by omega, by omega⟩))

theorem fit_mv3 {n a j : Nat} (h : FitE n 1 1 1 a j) (hj : j ≠ n / 16777216 % 256) : FitE n 0 1 1 a j := by
  unfold FitE at *
  rcases h with h | h | h | ⟨h0, h1, h2⟩
  · exact .inl h
  · exact .inr (.inl h)
  · exact .inr (.inr (.inl h))
  · exact .inr (.inr (.inr ⟨h0, by omega, by omega⟩))
theorem fit_mv2 {n a j : Nat} (h : FitE n 0 1 1 a j) (hj : j ≠ 256 + n / 65536 % 256) : FitE n 0 0 1 a j := by
  unfold FitE at *
  rcases h with h | h | ⟨h0, h1, h2⟩ | h
  · exact .inl h
  · exact .inr (.inl h)
  · exact .inr (.inr (.inl ⟨h0, by omega, by omega⟩))
  · exact .inr (.inr (.inr h))
theorem fit_mv1 {n a j : Nat} (h : FitE n 0 0 1 a j) (hj : j ≠ 512 + n / 256 % 256) : FitE n 0 0 0 a j := by
  unfold FitE at *
  rcases h with h | ⟨h0, h1, h2⟩ | h | h
  · exact .inl h
  · exact .inr (.inl ⟨h0, by omega, by omega⟩)
  · exact .inr (.inr (.inl h))
  · exact .inr (.inr (.inr h))

/-- the wheel between two calls, or two ticks: nobody is due. -/
def Calm (S : WS) : Prop := Mid S (Fits S.now) ∧ S.due = []

theorem Calm.later {S : WS} (h : Calm S) : ∀ t ∈ S.live, S.now < t.at_ := fun t ht => by
  obtain ⟨j, hj, hid⟩ := h.1.has t ht (by rw [h.2]; simp)
  exact fits_later (h.1.fit j hj t ht hid)

theorem Calm.tick {S : WS} (h : Calm S) {P : Nat → Nat → Prop} (hP : ∀ a j, Fits S.now a j → P a j) : Mid (tickS S) P := by
  refine ⟨h.1.inc, h.1.lt_, fun t ht => ?_, fun j hj t ht hid => hP _ _ (h.1.fit j hj t ht hid), h.1.has, h.1.slt, h.1.dlt, ⟨h.1.cnt.c0, h.1.cnt.c1, h.1.cnt.c2⟩, h.1.tot⟩
  have h1 := h.later t ht
  have h2 := h.1.far t ht
  show S.now + 1 ≤ t.at_ ∧ t.at_ ≤ S.now + 1 + 1073741824
  omega

/-- after the moves. -/
def Moved (S M : WS) : Prop := Mid M (FitE (S.now + 1) 0 0 0) ∧ M.now = S.now + 1 ∧ M.next = S.next ∧ M.most = S.most ∧ M.live = S.live ∧ M.due = S.due

theorem moved_same (S : WS) (lvl j : Nat) : (moved S lvl j).now = S.now ∧ (moved S lvl j).next = S.next ∧ (moved S lvl j).most = S.most ∧ (moved S lvl j).live = S.live ∧ (moved S lvl j).due = S.due :=
  have h := putAll_next (taken S lvl j) (S.slot j)
  ⟨moved_now S lvl j, h.1, h.2.1, putAll_live _ _, h.2.2⟩

theorem step1 {S M : WS} (hn : M.now = S.now + 1) (hm : Mid M (FitE (S.now + 1) 0 0 1)) (hd : (S.now + 1) % 256 = 0) : Mid (mv1 M) (FitE (S.now + 1) 0 0 0) := by
  unfold mv1
  refine hm.moved 1 _ (.inl ⟨rfl, by omega, by omega⟩) (fun a i _ hf hi => fit_mv1 hf (by rw [hn] at hi; exact hi)) (fun a h1 h2 => ?_)
  rw [hn] at h1 h2 ⊢
  exact place_fitE h1 h2 (.inl rfl) (.inl rfl)
theorem step2 {S M : WS} (hn : M.now = S.now + 1) (hm : Mid M (FitE (S.now + 1) 0 1 1)) (hd : (S.now + 1) % 65536 = 0) : Mid (mv2 M) (FitE (S.now + 1) 0 0 1) := by
  unfold mv2
  refine hm.moved 2 _ (.inr (.inl ⟨rfl, by omega, by omega⟩)) (fun a i _ hf hi => fit_mv2 hf (by rw [hn] at hi; exact hi)) (fun a h1 h2 => ?_)
  rw [hn] at h1 h2 ⊢
  exact place_fitE h1 h2 (.inr ⟨rfl, by omega⟩) (.inl rfl)
theorem step3 {S M : WS} (hn : M.now = S.now + 1) (hm : Mid M (FitE (S.now + 1) 1 1 1)) (hd : (S.now + 1) % 16777216 = 0) : Mid (mv3 M) (FitE (S.now + 1) 0 1 1) := by
  unfold mv3
  refine hm.moved 3 _ (.inr (.inr ⟨rfl, by omega⟩)) (fun a i _ hf hi => fit_mv3 hf (by rw [hn] at hi; exact hi)) (fun a h1 h2 => ?_)
  rw [hn] at h1 h2 ⊢
  exact place_fitE h1 h2 (.inr ⟨rfl, by omega⟩) (.inr ⟨rfl, by omega⟩)

theorem takeT_filter : ∀ (p : List Nat) (a0 : List Nat) (L : List Tm), (ids L).Pairwise (· < ·) → p.Pairwise (· ≤ ·) →
    p.foldl stepT (a0, L) = (a0 ++ ids (L.filter (fun t => decide (t.id ∈ p))), L.filter (fun t => decide (t.id ∉ p)))
  | [], a0, L, _, _ => by
    refine Prod.ext (by simp [ids]) ?_
    exact (List.filter_eq_self.2 (by simp)).symm
  | x :: p, a0, L, hi, hp => by
    have hp' := List.pairwise_cons.1 hp
    rw [List.foldl_cons]
    by_cases hf : ∃ t ∈ L, t.id = x
    · have hs : stepT (a0, L) x = (a0 ++ [x], L.filter (fun t => decide (t.id ≠ x))) := if_pos hf
      have hi2 : (ids (L.filter (fun t => decide (t.id ≠ x)))).Pairwise (· < ·) := hi.sublist ((List.filter_sublist).map _)
      rw [hs, takeT_filter p _ _ hi2 hp'.2, List.filter_filter, List.filter_filter]
      obtain ⟨t, ht, rfl⟩ := hf
      obtain ⟨A, B, rfl⟩ := List.append_of_mem ht
      have hAB : (∀ u ∈ A, u.id < t.id) ∧ (∀ u ∈ B, t.id < u.id) := by
        simp only [ids, List.map_append, List.map_cons, List.pairwise_append, List.pairwise_cons] at hi
        exact ⟨fun u hu => hi.2.2 u.id (List.mem_map.2 ⟨u, hu, rfl⟩) t.id List.mem_cons_self, fun u hu => hi.2.1.1 u.id (List.mem_map.2 ⟨u, hu, rfl⟩)⟩
      have eA : A.filter (fun u => decide (u.id ∈ t.id :: p)) = [] := List.filter_eq_nil_iff.2 (fun u hu => by
        have h1 := hAB.1 u hu
        simp only [decide_eq_true_eq, List.mem_cons]
        rintro (h | h)
        · omega
        · have := hp'.1 _ h; omega)
      have eA2 : A.filter (fun u => decide (u.id ∈ p) && decide (u.id ≠ t.id)) = [] := List.filter_eq_nil_iff.2 (fun u hu => by
        have h1 := hAB.1 u hu
        simp only [Bool.and_eq_true, decide_eq_true_eq]
        rintro ⟨h, _⟩
        have := hp'.1 _ h; omega)
      have eB : B.filter (fun u => decide (u.id ∈ t.id :: p)) = B.filter (fun u => decide (u.id ∈ p) && decide (u.id ≠ t.id)) := List.filter_congr (fun u hu => by
        have h1 := hAB.2 u hu
        have h2 : u.id ≠ t.id := by omega
        simp [h2])
      refine Prod.ext ?_ ?_
      · show a0 ++ [t.id] ++ ids _ = a0 ++ ids _
        rw [List.append_assoc]
        congr 1
        rw [List.filter_append, List.filter_append, eA, eA2, List.filter_cons, List.filter_cons, if_neg (by simp), if_pos (by simp), eB]
        simp [ids]
      · show List.filter _ _ = List.filter _ _
        apply List.filter_congr
        intro u _
        simp [Bool.and_comm, not_or]
    · have hs : stepT (a0, L) x = (a0, L) := if_neg hf
      rw [hs, takeT_filter p a0 L hi hp'.2]
      have hne : ∀ t ∈ L, t.id ≠ x := fun t ht e => hf ⟨t, ht, e⟩
      refine Prod.ext ?_ ?_
      · show a0 ++ ids _ = a0 ++ ids _
        congr 2
        apply List.filter_congr
        intro u hu
        simp [hne u hu]
      · show List.filter _ _ = List.filter _ _
        apply List.filter_congr
        intro u hu
        simp [hne u hu]

theorem takeT_sort {L : List Tm} (hi : (ids L).Pairwise (· < ·)) (l : List Nat) : takeT L (sortL l) = (ids (L.filter (fun t => decide (t.id ∈ l))), L.filter (fun t => decide (t.id ∉ l))) := by
  unfold takeT
  rw [takeT_filter _ _ _ hi (sortL_sorted l)]
  have e1 : ∀ t : Tm, decide (t.id ∈ sortL l) = decide (t.id ∈ l) := fun t => decide_eq_decide.2 sortL_mem
  refine Prod.ext ?_ ?_
  · simp [e1, sortL_mem]
  · simp [sortL_mem]
end Go.Proofs.Ytlbdfhbkemikgaa

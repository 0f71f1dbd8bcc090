/- Plain: the rounds of a Tick; small lemmas for its walk. -/
import Derived.Test.YtlbdfhbkemikgaaTicksD
set_option linter.unusedVariables false
set_option linter.unusedSimpArgs false
namespace Go.Proofs.Ytlbdfhbkemikgaa
open Go.RowKit Plain

/-- what Tick leaves: 'N' ticks later. -/
structure After (S S' : WS) (N : Nat) : Prop where
  calm : Calm S'
  now : S'.now = S.now + N
  next : S'.next = S.next
  most : S'.most = S.most
  live : S'.live = S.live.filter (fun t => decide (S.now + N < t.at_))

theorem after_due {S : WS} (h : Rest S) : After S (dueS S) 0 ∧ ids (S.live.filter (fun t => decide (t.id ∈ S.due))) = expFrom S.live S.now 1 := by
  refine ⟨⟨due_calm h, rfl, rfl, rfl, ?_⟩, by rw [(due_live h).2, expFrom_one]⟩
  rw [(due_live h).1]
  apply List.filter_congr
  intro t ht
  have := h.mid.far t ht
  exact decide_eq_decide.2 (by omega)

theorem after_step {S S' M : WS} {N d : Nat} (h : After S S' N) (hd : d ≤ spanOf S' - S'.now % spanOf S' - 1) (hm : Moved { S' with now := S'.now + d } M) :
    After S (doneS M) (N + d + 1) ∧ expFrom S.live S.now (N + 1) ++ ids (M.live.filter (fun t => decide (t.id ∈ lastL M))) = expFrom S.live S.now (N + d + 1 + 1) := by
  obtain ⟨hc, hlater⟩ := skip_calm h.calm d hd
  have hdl := done_live hm hc.2
  have hnow : M.now = S'.now + d + 1 := hm.2.1
  have hin : ∀ t ∈ S.live, S.now + N < t.at_ → S.now + N + d < t.at_ := fun t ht ha => by
    have h1 : t ∈ S'.live := by rw [h.live]; exact List.mem_filter.2 ⟨ht, by simpa using ha⟩
    have := hlater t h1
    rw [h.now] at this
    exact this
  refine ⟨⟨done_calm hm hc.2, ?_, ?_, ?_, ?_⟩, ?_⟩
  · show M.now = _
    rw [hnow, h.now]; omega
  · show M.next = _
    rw [hm.2.2.1]; exact h.next
  · show M.most = _
    rw [hm.2.2.2.1]; exact h.most
  · rw [hdl.1]
    show List.filter _ S'.live = _
    rw [h.live, List.filter_filter]
    apply List.filter_congr
    intro t ht
    have h1 := hin t ht
    show (decide (t.at_ ≠ S'.now + d + 1) && decide (S.now + N < t.at_)) = decide (S.now + (N + d + 1) < t.at_)
    rw [h.now]
    rw [← Bool.decide_and]
    apply decide_eq_decide.2
    by_cases ha : S.now + N < t.at_
    · have := h1 ha
      omega
    · omega
  · rw [hdl.2]
    show _ ++ ids (List.filter _ S'.live) = _
    rw [show N + d + 1 + 1 = (N + 1) + (d + 1) by omega, expFrom_add S.live S.now (N + 1) (d + 1), expFrom_succ S.live (S.now + (N + 1)) d]
    rw [expFrom_none S.live (S.now + (N + 1)) d (fun t ht => by
      have := hin t ht
      by_cases ha : S.now + N < t.at_
      · have := this ha; omega
      · omega)]
    rw [List.nil_append, h.live, List.filter_filter]
    congr 2
    apply List.filter_congr
    intro t ht
    show (decide (t.at_ = S'.now + d + 1) && decide (S.now + N < t.at_)) = decide (t.at_ = S.now + (N + 1) + d)
    rw [h.now]
    rw [← Bool.decide_and]
    exact decide_eq_decide.2 (by omega)

theorem inc_len (n : Nat) : ∀ (l : List Nat) (lo : Nat), l.Pairwise (· < ·) → (∀ x ∈ l, lo ≤ x ∧ x < n) → l.length ≤ n - lo
  | [], _, _, _ => Nat.zero_le _
  | x :: l, lo, hp, h => by
    have hp' := List.pairwise_cons.1 hp
    have hx := h x List.mem_cons_self
    have := inc_len n l (x + 1) hp'.2 (fun y hy => ⟨hp'.1 y hy, (h y (List.mem_cons_of_mem _ hy)).2⟩)
    rw [List.length_cons]
    omega

theorem filter_two (L : List Tm) (P Q R : Tm → Bool) (h : ∀ t, (P t = true → R t = true) ∧ (Q t = true → R t = true) ∧ ¬ (P t = true ∧ Q t = true)) : (L.filter P).length + (L.filter Q).length ≤ (L.filter R).length := by
  induction L with
  | nil => simp
  | cons t L ih =>
    obtain ⟨h1, h2, h3⟩ := h t
    simp only [List.filter_cons]
    cases hP : P t <;> cases hQ : Q t <;> cases hR : R t <;> simp_all <;> omega

theorem expFrom_len (L : List Tm) (a : Nat) : ∀ k, (expFrom L a k).length ≤ (L.filter (fun t => decide (t.at_ < a + k))).length
  | 0 => by simp [expFrom]
  | k + 1 => by
    rw [expFrom_succ, List.length_append]
    have h1 := expFrom_len L a k
    have h2 := filter_two L (fun t => decide (t.at_ < a + k)) (fun t => decide (t.at_ = a + k)) (fun t => decide (t.at_ < a + (k + 1))) (fun t => by simp; omega)
    have h3 : (ids (L.filter (fun t => decide (t.at_ = a + k)))).length = (L.filter (fun t => decide (t.at_ = a + k))).length := by simp [ids]
    omega

theorem expFrom_le {S : WS} (h : Rest S) (a k : Nat) : (expFrom S.live a k).length ≤ S.next := by
  have h1 := expFrom_len S.live a k
  have h2 := List.length_filter_le (fun t : Tm => decide (t.at_ < a + k)) S.live
  have h3 := inc_len S.next (ids S.live) 0 h.mid.inc (fun x hx => by
    obtain ⟨t, ht, rfl⟩ := List.mem_map.1 hx
    exact ⟨Nat.zero_le _, h.mid.lt_ t ht⟩)
  have h4 : (ids S.live).length = S.live.length := by simp [ids]
  omega

theorem foot_nil {p m j : Nat} {V : Nat → Value} {k : Nat} (h : foot p m (updV V j (.slice none 0 0)) k) : foot p m V k := by
  rcases h with h | h | ⟨i, hi, hg⟩
  · exact .inl h
  · exact .inr (.inl h)
  · by_cases e : i = j
    · subst e; rw [updV_self] at hg; simp [Value.ownBlock] at hg
    · rw [updV_other _ _ e] at hg; exact .inr (.inr ⟨i, hi, hg⟩)

/-- the due are sorted in place. -/
theorem due_sorted {w w1 : World} {p m : Nat} {V : Nat → Value} {S : WS} (h : Wh w p m V S) {l : List Nat} (hs : Sl w1 (V 1027) l) (hg : w.grownBy w1 (V 1027).ownBlock) : Wh w1 p m V { S with due := l } := by
  have hblk : ∀ k, foot p m V k → (V 1027).ownBlock ≠ some k → w1.heap[k]? = w.heap[k]? := fun k hk hn => hg.block k (h.foot_lt hk) (fun e => hn e.symm)
  have i27 : isSlot 1027 := .inr rfl
  refine ⟨h.row.of_block (hblk p (.inl rfl) (fun e => (h.apart i27 e).1 rfl)), h.c0, h.c1, h.c2, h.map, h.most, h.now, h.next, fun j hj => ?_, h.mp.of_block (hblk m (.inr (.inl rfl)) (fun e => (h.apart i27 e).2 rfl)), h.inj⟩
  by_cases e : j = 1027
  · subst e; rw [lst_due]; exact hs
  · rw [show lst { S with due := l } j = lst S j by rw [lst_slot _ e, lst_slot _ e]]
    exact (h.sl j hj).of_block (fun g hg' => hblk g (.inr (.inr ⟨j, hj, hg'⟩)) (fun e' => e (h.inj j 1027 g hj i27 hg' e')))

theorem Rest.okl {S : WS} (h : Rest S) (hx : S.next < 200000000000) : OkL S.live := ⟨h.mid.inc, fun t ht => by have := h.mid.lt_ t ht; omega⟩

theorem Mid.lens {S : WS} {P : Nat → Nat → Prop} (h : Mid S P) : S.due.length ≤ S.next ∧ ∀ j, j < 1024 → (S.slot j).length ≤ S.next := by
  have h4 := h.tot
  unfold Ytlbdfhbkemikgaa.tot at h4
  refine ⟨by omega, fun j hj => ?_⟩
  have := many_ge S.slot 0 1024 j (by omega) (by omega); omega
end Go.Proofs.Ytlbdfhbkemikgaa

/- One tick, joined: its contract by the order of the wheel; starts and cancels keep the order; who expires from a time on. -/
import Derived.Test.YtlbdfhbkemikgaaTicksC
set_option linter.unusedVariables false
set_option linter.unusedSimpArgs false
namespace Go.Proofs.Ytlbdfhbkemikgaa
open Go.RowKit Plain

theorem one_c (w : World) (p m : Nat) (V : Nat → Value) (S : WS) (h : Wh w p m V S) (hc : Calm S) (hn : S.now < 300000000000) (hx : S.next < 300000000000) :
    Calls Try.prog 32 #[.pointer (some ⟨p, 0, none⟩)] w (fun e w' => ∃ M, Moved S M ∧ Ok M ∧ RetOne w p m V (lastS M) (lastL M) e w') := by
  have tn : (tickS S).now = S.now + 1 := rfl
  by_cases cA : (S.now + 1) % 16777216 = 0
  · have M0 : Mid (tickS S) (FitE (S.now + 1) 1 1 1) := hc.tick (fun a j hf => fit_A hf cA)
    have s3 := moved_same (tickS S) 3 ((tickS S).now / 16777216 % 256)
    have n3 : (mv3 (tickS S)).now = S.now + 1 := s3.1
    have M3 := step3 tn M0 cA
    have s2 := moved_same (mv3 (tickS S)) 2 (256 + (mv3 (tickS S)).now / 65536 % 256)
    have n2 : (mv2 (mv3 (tickS S))).now = S.now + 1 := s2.1.trans n3
    have M2 := step2 n3 M3 (by omega)
    have s1 := moved_same (mv2 (mv3 (tickS S))) 1 (512 + (mv2 (mv3 (tickS S))).now / 256 % 256)
    have n1 : (mv1 (mv2 (mv3 (tickS S)))).now = S.now + 1 := s1.1.trans n2
    have M1 := step1 n2 M2 (by omega)
    have x3 : (mv3 (tickS S)).next = S.next := s3.2.1
    have x2 : (mv2 (mv3 (tickS S))).next = S.next := s2.2.1.trans x3
    have x1 : (mv1 (mv2 (mv3 (tickS S)))).next = S.next := s1.2.1.trans x2
    have okl := M1.ok (by rw [n1]; omega) (by rw [x1]; omega)
    refine (one_A w p m V S h cA (by omega) (M0.mok (by rw [tn]; omega) (by show S.next < _; omega) 3 _ (.inr (.inr ⟨rfl, by omega⟩))) (M3.mok (by rw [n3]; omega) (by rw [x3]; omega) 2 _ (.inr (.inl ⟨rfl, by omega, by omega⟩)))
      (M2.mok (by rw [n2]; omega) (by rw [x2]; omega) 1 _ (.inl ⟨rfl, by omega, by omega⟩)) okl).mono fun e w' hr => ⟨_, ⟨M1, n1, x1, ?_, ?_, ?_⟩, okl, hr⟩
    · exact s1.2.2.1.trans (s2.2.2.1.trans s3.2.2.1)
    · exact s1.2.2.2.1.trans (s2.2.2.2.1.trans s3.2.2.2.1)
    · exact s1.2.2.2.2.trans (s2.2.2.2.2.trans s3.2.2.2.2)
  · by_cases cB : (S.now + 1) % 65536 = 0
    · have M3 : Mid (tickS S) (FitE (S.now + 1) 0 1 1) := hc.tick (fun a j hf => fit_B hf cA cB)
      have s2 := moved_same (tickS S) 2 (256 + (tickS S).now / 65536 % 256)
      have n2 : (mv2 (tickS S)).now = S.now + 1 := s2.1
      have M2 := step2 tn M3 cB
      have s1 := moved_same (mv2 (tickS S)) 1 (512 + (mv2 (tickS S)).now / 256 % 256)
      have n1 : (mv1 (mv2 (tickS S))).now = S.now + 1 := s1.1.trans n2
      have M1 := step1 n2 M2 (by omega)
      have x2 : (mv2 (tickS S)).next = S.next := s2.2.1
      have x1 : (mv1 (mv2 (tickS S))).next = S.next := s1.2.1.trans x2
      have okl := M1.ok (by rw [n1]; omega) (by rw [x1]; omega)
      refine (one_B w p m V S h cA cB (by omega) (M3.mok (by rw [tn]; omega) (by show S.next < _; omega) 2 _ (.inr (.inl ⟨rfl, by omega, by omega⟩)))
        (M2.mok (by rw [n2]; omega) (by rw [x2]; omega) 1 _ (.inl ⟨rfl, by omega, by omega⟩)) okl).mono fun e w' hr => ⟨_, ⟨M1, n1, x1, ?_, ?_, ?_⟩, okl, hr⟩
      · exact s1.2.2.1.trans s2.2.2.1
      · exact s1.2.2.2.1.trans s2.2.2.2.1
      · exact s1.2.2.2.2.trans s2.2.2.2.2
    · by_cases cC : (S.now + 1) % 256 = 0
      · have M2 : Mid (tickS S) (FitE (S.now + 1) 0 0 1) := hc.tick (fun a j hf => fit_C hf cB cC)
        have s1 := moved_same (tickS S) 1 (512 + (tickS S).now / 256 % 256)
        have n1 : (mv1 (tickS S)).now = S.now + 1 := s1.1
        have M1 := step1 tn M2 cC
        have x1 : (mv1 (tickS S)).next = S.next := s1.2.1
        have okl := M1.ok (by rw [n1]; omega) (by rw [x1]; omega)
        exact (one_C w p m V S h cB cC (by omega) (M2.mok (by rw [tn]; omega) (by show S.next < _; omega) 1 _ (.inl ⟨rfl, by omega, by omega⟩)) okl).mono fun e w' hr =>
          ⟨_, ⟨M1, n1, x1, s1.2.2.1, s1.2.2.2.1, s1.2.2.2.2⟩, okl, hr⟩
      · have M1 : Mid (tickS S) (FitE (S.now + 1) 0 0 0) := hc.tick (fun a j hf => fit_D hf cC)
        have okl := M1.ok (by rw [tn]; omega) (by show S.next < _; omega)
        exact (one_D w p m V S h cC (by omega) okl).mono fun e w' hr => ⟨_, ⟨M1, rfl, rfl, rfl, rfl, rfl⟩, okl, hr⟩

/-- who expires at times from 'a' on, 'k' of them. -/
def expFrom (L : List Tm) (a k : Nat) : List Nat := (List.range k).flatMap (fun i => ids (L.filter (fun t => decide (t.at_ = a + i))))

theorem expFrom_succ (L : List Tm) (a k : Nat) : expFrom L a (k + 1) = expFrom L a k ++ ids (L.filter (fun t => decide (t.at_ = a + k))) := by
  unfold expFrom
  rw [List.range_succ, List.flatMap_append]
  simp

theorem expFrom_add (L : List Tm) (a k : Nat) : ∀ k', expFrom L a (k + k') = expFrom L a k ++ expFrom L (a + k) k'
  | 0 => by simp [expFrom]
  | k' + 1 => by
    rw [show k + (k' + 1) = k + k' + 1 by omega, expFrom_succ, expFrom_add L a k k', expFrom_succ, List.append_assoc, Nat.add_assoc]

theorem expFrom_none (L : List Tm) (a k : Nat) (h : ∀ t ∈ L, t.at_ < a ∨ a + k ≤ t.at_) : expFrom L a k = [] := by
  unfold expFrom
  rw [List.flatMap_eq_nil_iff]
  intro i hi
  rw [List.mem_range] at hi
  rw [List.filter_eq_nil_iff.2]
  · rfl
  · intro t ht
    have := h t ht
    simp; omega

theorem expFrom_one (L : List Tm) (a : Nat) : expFrom L a 1 = ids (L.filter (fun t => decide (t.at_ = a))) := by
  simp [expFrom]

/-- a start keeps the order. -/
theorem startT_tot (S : WS) (n : Nat) (what : Int) : tot (startT S n what) = tot S := rfl

theorem start_rest {S : WS} (h : Rest S) (n : Nat) (what : Int) (h1 : n ≤ 1073741824) : Rest (if n = 0 then start0 S what else startN S n what) := by
  have hm := h.mid
  have hinc : (ids (S.live ++ [⟨S.next, S.now + n, what⟩])).Pairwise (· < ·) := by
    simp only [ids, List.map_append, List.map_cons, List.map_nil, List.pairwise_append]
    refine ⟨hm.inc, by simp, fun a ha b hb => ?_⟩
    obtain ⟨t, ht, rfl⟩ := List.mem_map.1 ha
    have := hm.lt_ t ht
    simp at hb
    omega
  have hmem : ∀ t, t ∈ S.live ++ [⟨S.next, S.now + n, what⟩] → t ∈ S.live ∨ t = ⟨S.next, S.now + n, what⟩ := fun t ht => by simpa using ht
  have hlt : ∀ t ∈ S.live ++ [⟨S.next, S.now + n, what⟩], t.id < S.next + 1 := fun t ht => by
    rcases hmem t ht with h' | rfl
    · have := hm.lt_ t h'; omega
    · show S.next < S.next + 1; omega
  have hfar : ∀ t ∈ S.live ++ [⟨S.next, S.now + n, what⟩], S.now ≤ t.at_ ∧ t.at_ ≤ S.now + 1073741824 := fun t ht => by
    rcases hmem t ht with h' | rfl
    · exact hm.far t h'
    · show S.now ≤ S.now + n ∧ S.now + n ≤ S.now + 1073741824; omega
  have nsl : ∀ j, j < 1024 → S.next ∉ S.slot j := fun j hj hid => by have := hm.slt j hj _ hid; omega
  have ndu : S.next ∉ S.due := fun hid => by have := hm.dlt _ hid; omega
  split
  · rename_i e0
    subst e0
    refine ⟨⟨hinc, hlt, hfar, fun j hj t ht hid => ?_, fun t ht hd => ?_, fun j hj id hid => by have := hm.slt j hj id hid; show id < S.next + 1; omega, fun id hid => ?_, ⟨hm.cnt.c0, hm.cnt.c1, hm.cnt.c2⟩, ?_⟩, fun t ht hd => ?_⟩
    · rcases hmem t ht with h' | rfl
      · exact hm.fit j hj t h' hid
      · exact absurd hid (nsl j hj)
    · have hd' : t.id ∉ S.due ++ [S.next] := hd
      rw [List.mem_append, not_or] at hd'
      rcases hmem t ht with h' | rfl
      · exact hm.has t h' hd'.1
      · simp at hd'
    · have hid' : id ∈ S.due ++ [S.next] := hid
      rcases List.mem_append.1 hid' with h' | h'
      · have := hm.dlt id h'; show id < S.next + 1; omega
      · simp at h'; show id < S.next + 1; omega
    · have := hm.tot
      unfold tot at this ⊢
      show many S.slot 0 1024 + (S.due ++ [S.next]).length ≤ S.next + 1
      simp; omega
    · have hd' : t.id ∈ S.due ++ [S.next] := hd
      rcases hmem t ht with h' | rfl
      · rcases List.mem_append.1 hd' with h2 | h2
        · exact h.due_ t h' h2
        · simp at h2; have := hm.lt_ t h'; omega
      · rfl
  · rename_i e0
    have hsl : ∀ j id, id ∈ (startN S n what).slot j → id ∈ S.slot j ∨ (id = S.next ∧ j = place S.now (S.now + n)) := fun j id hid => by
      have h' : id ∈ upd S.slot (place S.now (S.now + n)) (S.slot (place S.now (S.now + n)) ++ [S.next]) j := hid
      unfold upd at h'
      split at h'
      · rename_i e; subst e
        rcases List.mem_append.1 h' with h' | h'
        · exact .inl h'
        · simp at h'; exact .inr ⟨h', rfl⟩
      · exact .inl h'
    obtain ⟨p1, p2, p3⟩ := put_counts (S := startT S n what) (id := S.next) (a := S.now + n) hm.cnt.c0 hm.cnt.c1 hm.cnt.c2
    refine ⟨⟨hinc, hlt, hfar, fun j hj t ht hid => ?_, fun t ht hd => ?_, fun j hj id hid => ?_, fun id hid => by have := hm.dlt id hid; show id < S.next + 1; omega, ⟨p1, p2, p3⟩, ?_⟩, fun t ht hd => ?_⟩
    · rcases hsl j _ hid with h2 | ⟨h2, h3⟩
      · rcases hmem t ht with h' | rfl
        · exact hm.fit j hj t h' h2
        · exact absurd h2 (nsl j hj)
      · rcases hmem t ht with h' | rfl
        · have := hm.lt_ t h'; omega
        · rw [h3]
          exact place_fits (now := S.now) (a := S.now + n) (by omega) (by omega)
    · rcases hmem t ht with h' | rfl
      · obtain ⟨j, hj, hid⟩ := hm.has t h' hd
        refine ⟨j, hj, ?_⟩
        show t.id ∈ upd S.slot (place S.now (S.now + n)) (S.slot (place S.now (S.now + n)) ++ [S.next]) j
        unfold upd
        split
        · rename_i e; subst e; exact List.mem_append_left _ hid
        · exact hid
      · refine ⟨place S.now (S.now + n), place_lt _ _, ?_⟩
        show S.next ∈ upd S.slot (place S.now (S.now + n)) (S.slot (place S.now (S.now + n)) ++ [S.next]) (place S.now (S.now + n))
        simp [upd]
    · rcases hsl j id hid with h2 | ⟨h2, _⟩
      · have := hm.slt j hj id h2; show id < S.next + 1; omega
      · show id < S.next + 1; omega
    · have := tot_put (startT S n what) S.next (S.now + n)
      have h2 := hm.tot
      rw [startT_tot] at this
      show tot (put (startT S n what) S.next (S.now + n)) ≤ S.next + 1
      omega
    · rcases hmem t ht with h' | rfl
      · exact h.due_ t h' hd
      · exact absurd hd ndu

theorem drop_rest {S : WS} (h : Rest S) (id : Nat) : Rest (dropT S id) := by
  have hm := h.mid
  have hsub : ∀ t ∈ (dropT S id).live, t ∈ S.live := fun t ht => (List.mem_filter.1 ht).1
  exact ⟨⟨hm.inc.sublist ((List.filter_sublist).map _), fun t ht => hm.lt_ t (hsub t ht), fun t ht => hm.far t (hsub t ht), fun j hj t ht hid => hm.fit j hj t (hsub t ht) hid, fun t ht hd => hm.has t (hsub t ht) hd, hm.slt, hm.dlt,
    ⟨hm.cnt.c0, hm.cnt.c1, hm.cnt.c2⟩, hm.tot⟩, fun t ht hd => h.due_ t (hsub t ht) hd⟩

theorem many_nil : ∀ (b k : Nat), many (fun _ => []) b k = 0
  | _, 0 => rfl
  | b, k + 1 => by rw [many, many_nil b k]; rfl

theorem S0_rest (n : Nat) : Rest (S0 n) := by
  refine ⟨⟨by simp [S0, ids], fun t ht => by simp [S0] at ht, fun t ht => by simp [S0] at ht, fun j hj t ht => by simp [S0] at ht, fun t ht => by simp [S0] at ht, fun j hj id hid => by simp [S0] at hid, fun id hid => by simp [S0] at hid, ⟨?_, ?_, ?_⟩, ?_⟩, fun t ht => by simp [S0] at ht⟩
  · show (0 : Int) = ((many (fun _ => []) 768 256 : Nat) : Int); rw [many_nil]; rfl
  · show (0 : Int) = ((many (fun _ => []) 512 256 : Nat) : Int); rw [many_nil]; rfl
  · show (0 : Int) = ((many (fun _ => []) 256 256 : Nat) : Int); rw [many_nil]; rfl
  · show many (fun _ => []) 0 1024 + 0 ≤ 0; rw [many_nil]; exact Nat.le_refl _
end Go.Proofs.Ytlbdfhbkemikgaa

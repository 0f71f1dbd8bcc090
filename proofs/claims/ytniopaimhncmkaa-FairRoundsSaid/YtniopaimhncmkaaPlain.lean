/- Plain laws on scripts of entries: which windows hold a run of each worker, and the least length of which all do. No program here. -/
set_option linter.unusedVariables false
set_option linter.unusedSimpArgs false
namespace Go.Proofs.Ytniopaimhncmkaa.Plain

/-- an entry, as far as fairness looks at it: its kind, its worker, its budget. -/
structure Ent where
  kind : Int
  a : Int
  b : Int

/-- a run of worker 'w'. -/
def hit (w : Int) (e : Ent) : Prop := e.kind = 1 ∧ e.a = w ∧ 1 ≤ e.b

instance (w : Int) (e : Ent) : Decidable (hit w e) := by unfold hit; infer_instance

/-- the window of 'k' entries from 's' on holds a run of 'w'. -/
def inWin (f : Nat → Ent) (w : Int) (s k : Nat) : Prop := ∃ i, s ≤ i ∧ i < s + k ∧ hit w (f i)

/-- fair by 'k', of the first 'n' entries of 'f', for 'W' workers. -/
def fairK (f : Nat → Ent) (n : Nat) (W : Int) (k : Nat) : Prop := ∀ s, s + k ≤ n → ∀ w : Nat, (w : Int) < W → inWin f w s k

theorem inWin_mono {f : Nat → Ent} {w : Int} {s k s' k' : Nat} (h : inWin f w s k) (h1 : s' ≤ s) (h2 : s + k ≤ s' + k') : inWin f w s' k' := by
  obtain ⟨i, a, b, c⟩ := h
  exact ⟨i, by omega, by omega, c⟩

theorem fairK_more {f : Nat → Ent} {n : Nat} {W : Int} {k k' : Nat} (h : fairK f n W k) (hk : k ≤ k') : fairK f n W k' :=
  fun s hs w h1 => inWin_mono (h s (by omega) w h1) (Nat.le_refl _) (by omega)

/-- what the program keeps: the longest row so far, and for each worker the place behind its last run. -/
structure St where
  n : Int
  last : Nat → Int

def cond (W : Int) (e : Ent) : Prop := e.kind = 1 ∧ 0 ≤ e.a ∧ e.a < W ∧ 1 ≤ e.b

instance (W : Int) (e : Ent) : Decidable (cond W e) := by unfold cond; infer_instance

def big (x y : Int) : Int := if y > x then y else x

theorem big_le (x y : Int) : x ≤ big x y ∧ y ≤ big x y ∧ (big x y = y ∨ big x y = x) := by
  unfold big
  split <;> omega

def step (W : Int) (i : Nat) (e : Ent) (st : St) : St :=
  if cond W e then { n := big st.n ((i : Int) - st.last e.a.toNat), last := fun k => if k = e.a.toNat then (i : Int) + 1 else st.last k } else st

def run (W : Int) (f : Nat → Ent) : Nat → St
  | 0 => { n := 0, last := fun _ => 0 }
  | i + 1 => step W i (f i) (run W f i)

theorem run_succ (W : Int) (f : Nat → Ent) (i : Nat) : run W f (i + 1) = step W i (f i) (run W f i) := rfl

/-- the second loop: over the workers. -/
def fin (n : Nat) (st : St) : Nat → Int
  | 0 => st.n
  | k + 1 => big (fin n st k) ((n : Int) - st.last k)

/-- what holds behind 'i' entries. -/
structure Ok (W : Int) (f : Nat → Ent) (i : Nat) (st : St) : Prop where
  n0 : 0 ≤ st.n
  ni : st.n ≤ i
  l0 : ∀ k, 0 ≤ st.last k
  li : ∀ k, st.last k ≤ i
  /-- at the last run there is one -/
  at_ : ∀ k : Nat, (k : Int) < W → 0 < st.last k → hit k (f (st.last k - 1).toNat)
  /-- behind the last run there is none -/
  none_ : ∀ (k : Nat) (j : Nat), (k : Int) < W → st.last k ≤ j → j < i → ¬ hit k (f j)
  /-- ahead of the last run each window that is longer than 'n' holds one -/
  all_ : ∀ (k s m : Nat), (k : Int) < W → st.n < m → (s : Int) + m ≤ st.last k → inWin f k s m
  /-- if the longest is not 0 there is such a row -/
  some_ : st.n = 0 ∨ ∃ (k s : Nat), (k : Int) < W ∧ (s : Int) + st.n ≤ i ∧ ∀ j : Nat, s ≤ j → (j : Int) < s + st.n → ¬ hit k (f j)

theorem hit_iff {W : Int} {e : Ent} {k : Nat} (hk : (k : Int) < W) : hit k e ↔ cond W e ∧ e.a.toNat = k := by
  unfold hit cond
  constructor
  · rintro ⟨h1, h2, h3⟩
    exact ⟨⟨h1, by omega, by omega, h3⟩, by omega⟩
  · rintro ⟨⟨h1, h2, h3, h4⟩, h5⟩
    exact ⟨h1, by omega, h4⟩

/-- a window that is longer than the longest row and than what lies behind the last run holds a run. -/
theorem Ok.win {W : Int} {f : Nat → Ent} {i : Nat} {st : St} (h : Ok W f i st) {k s m : Nat} (hk : (k : Int) < W) (h1 : st.n < m) (h2 : (i : Int) - st.last k < m) (h3 : s + m ≤ i) : inWin f k s m := by
  have a1 := h.l0 k
  have a2 := h.li k
  by_cases c1 : (s : Int) + m ≤ st.last k
  · exact h.all_ k s m hk h1 c1
  · exact ⟨(st.last k - 1).toNat, by omega, by omega, h.at_ k hk (by omega)⟩

theorem ok_zero (W : Int) (f : Nat → Ent) : Ok W f 0 (run W f 0) where
  n0 := by simp [run]
  ni := by simp [run]
  l0 := fun k => by simp [run]
  li := fun k => by simp [run]
  at_ := fun k _ h => by simp [run] at h
  none_ := fun k j _ _ h => by omega
  all_ := fun k s m _ h h' => by
    have h1 : (0 : Int) < m := h
    have h2 : (s : Int) + m ≤ 0 := h'
    omega
  some_ := .inl rfl

theorem ok_step {W : Int} {f : Nat → Ent} {i : Nat} {st : St} (ih : Ok W f i st) : Ok W f (i + 1) (step W i (f i) st) := by
  unfold step
  by_cases hc : cond W (f i)
  · rw [if_pos hc]
    have hW : 0 ≤ (f i).a ∧ (f i).a < W := ⟨hc.2.1, hc.2.2.1⟩
    generalize hk0 : (f i).a.toNat = k0
    have hk0W : (k0 : Int) < W := by omega
    have hh : hit k0 (f i) := (hit_iff hk0W).2 ⟨hc, hk0⟩
    have a1 := ih.n0
    have a2 := ih.ni
    have a3 := ih.l0 k0
    have a4 := ih.li k0
    obtain ⟨hn1, hn2, hn3⟩ := big_le st.n ((i : Int) - st.last k0)
    generalize hn' : big st.n ((i : Int) - st.last k0) = n' at hn1 hn2 hn3
    have hlast : ∀ k, ((fun k => if k = k0 then (i : Int) + 1 else st.last k) k) = if k = k0 then (i : Int) + 1 else st.last k := fun _ => rfl
    refine ⟨?_, ?_, ?_, ?_, ?_, ?_, ?_, ?_⟩ <;> simp only [] <;> push_cast
    · omega
    · omega
    · intro k; split
      · omega
      · exact ih.l0 k
    · intro k; split
      · omega
      · have := ih.li k; omega
    · intro k hk
      by_cases e : k = k0
      · subst e
        rw [if_pos rfl]
        intro _
        have : ((i : Int) + 1 - 1).toNat = i := by omega
        rw [this]
        exact hh
      · rw [if_neg e]
        exact ih.at_ k hk
    · intro k j hk hj hji
      by_cases e : k = k0
      · rw [if_pos e] at hj
        omega
      · rw [if_neg e] at hj
        by_cases hj2 : j < i
        · exact ih.none_ k j hk hj hj2
        · have : j = i := by omega
          subst this
          intro hx
          exact e (((hit_iff hk).1 hx).2.symm.trans hk0)
    · intro k s m hk hm hs
      by_cases e : k = k0
      · subst e
        rw [if_pos rfl] at hs
        by_cases hfull : (s : Int) + m ≤ i
        · exact ih.win hk (by omega) (by omega) (by omega)
        · exact ⟨i, by omega, by omega, hh⟩
      · rw [if_neg e] at hs
        exact ih.all_ k s m hk (by omega) hs
    · rcases hn3 with h | h
      · by_cases h0 : n' = 0
        · exact .inl h0
        · refine .inr ⟨k0, (st.last k0).toNat, hk0W, by omega, fun j hj1 hj2 => ih.none_ k0 j hk0W (by omega) (by omega)⟩
      · rcases ih.some_ with h0 | ⟨k, s, hk, hs, hno⟩
        · exact .inl (h.trans h0)
        · exact .inr ⟨k, s, hk, by omega, fun j hj1 hj2 => hno j hj1 (by omega)⟩
  · rw [if_neg hc]
    refine ⟨ih.n0, ?_, ih.l0, ?_, ih.at_, ?_, ih.all_, ?_⟩
    · have := ih.ni; omega
    · intro k; have := ih.li k; omega
    · intro k j hk hj hji
      by_cases hj2 : j < i
      · exact ih.none_ k j hk hj hj2
      · have : j = i := by omega
        subst this
        intro hx
        exact hc ((hit_iff hk).1 hx).1
    · rcases ih.some_ with h0 | ⟨k, s, hk, hs, hno⟩
      · exact .inl h0
      · exact .inr ⟨k, s, hk, by omega, hno⟩

theorem ok_run (W : Int) (f : Nat → Ent) : ∀ i, Ok W f i (run W f i)
  | 0 => ok_zero W f
  | i + 1 => ok_step (ok_run W f i)

theorem fin_ge {n : Nat} {st : St} : ∀ k, st.n ≤ fin n st k
  | 0 => Int.le_refl _
  | k + 1 => Int.le_trans (fin_ge k) (big_le _ _).1

theorem fin_last {n : Nat} {st : St} : ∀ K k, k < K → (n : Int) - st.last k ≤ fin n st K
  | 0, k, h => by omega
  | K + 1, k, h => by
    by_cases e : k = K
    · subst e; exact (big_le _ _).2.1
    · exact Int.le_trans (fin_last K k (by omega)) (big_le _ _).1

theorem fin_is {n : Nat} {st : St} : ∀ K, fin n st K = st.n ∨ ∃ k, k < K ∧ fin n st K = (n : Int) - st.last k
  | 0 => .inl rfl
  | K + 1 => by
    rcases (big_le (fin n st K) ((n : Int) - st.last K)).2.2 with h | h
    · exact .inr ⟨K, by omega, h⟩
    · rcases fin_is (n := n) (st := st) K with h' | ⟨k, hk, h'⟩
      · exact .inl (h.trans h')
      · exact .inr ⟨k, by omega, h.trans h'⟩

/-- the longest row, of all workers. -/
def longest (f : Nat → Ent) (n W : Nat) : Int := fin n (run W f n) W

theorem longest_bounds (f : Nat → Ent) (n W : Nat) : 0 ≤ longest f n W ∧ longest f n W ≤ n := by
  have h := ok_run W f n
  have a := h.n0
  have b := h.ni
  unfold longest
  refine ⟨Int.le_trans a (fin_ge W), ?_⟩
  rcases fin_is (n := n) (st := run W f n) W with e | ⟨k, _, e⟩
  · omega
  · have := h.l0 k; omega

theorem longest_fair (f : Nat → Ent) (n W k : Nat) (hk : longest f n W < k) : fairK f n W k := by
  intro s hs w hw
  have h := ok_run W f n
  unfold longest at hk
  have h1 := fin_ge (n := n) (st := run W f n) W
  have h2 := fin_last (n := n) (st := run W f n) W w (by omega)
  exact h.win hw (by omega) (by omega) hs

theorem longest_least (f : Nat → Ent) (n W k : Nat) (hk : (k : Int) ≤ longest f n W) (h1 : 1 ≤ k) : ¬ fairK f n W k := by
  intro hf
  have h := ok_run W f n
  have hb := longest_bounds f n W
  obtain ⟨N, hN⟩ : ∃ N : Nat, longest f n W = N := ⟨(longest f n W).toNat, by omega⟩
  suffices hx : ∃ (w s : Nat), (w : Int) < W ∧ s + N ≤ n ∧ ∀ j : Nat, s ≤ j → j < s + N → ¬ hit w (f j) by
    obtain ⟨w, s, hw, hs, hno⟩ := hx
    obtain ⟨i, a, b, c⟩ := hf s (by omega) w hw
    exact hno i a (by omega) c
  unfold longest at hN
  rcases fin_is (n := n) (st := run W f n) W with e | ⟨w, hw, e⟩
  · rcases h.some_ with h0 | ⟨w, s, hw, hs, hno⟩
    · exfalso; unfold longest at hk; omega
    · exact ⟨w, s, hw, by omega, fun j a b => hno j a (by omega)⟩
  · have a1 := h.l0 w
    have a2 := h.li w
    exact ⟨w, ((run W f n).last w).toNat, by omega, by omega, fun j a b => h.none_ w j (by omega) (by omega) (by omega)⟩

/-- the least 'k': as the program tells it. -/
def least (f : Nat → Ent) (n : Nat) (W : Int) : Int := if W > n then n + 1 else longest f n W.toNat + 1

/-- a window of fewer entries than workers lacks a worker. -/
theorem pigeon (f : Nat → Ent) : ∀ (k s W : Nat), k < W → ∃ w : Nat, w < W ∧ ¬ inWin f w s k := by
  intro k s W hk
  by_cases hx : ∃ w : Nat, w < W ∧ ¬ inWin f w s k
  · exact hx
  · exfalso
    have hall : ∀ w : Nat, w < W → inWin f w s k := fun w hw => Classical.byContradiction fun h => hx ⟨w, hw, h⟩
    -- each worker has a place of its own
    have hl : ∀ W : Nat, (∀ w : Nat, w < W → inWin f w s k) → W ≤ ((List.range k).filter fun i => decide (0 ≤ (f (s + i)).a ∧ (f (s + i)).a < W)).length := by
      intro W
      induction W with
      | zero => intro _; omega
      | succ W ih =>
        intro hW
        have h1 := ih fun w hw => hW w (by omega)
        obtain ⟨i, a, b, c⟩ := hW W (by omega)
        have hci : (f i).a = W := c.2.1
        have hmem : i - s ∈ (List.range k).filter fun i => decide ((f (s + i)).a = W) := by
          rw [List.mem_filter]
          refine ⟨List.mem_range.2 (by omega), ?_⟩
          rw [show s + (i - s) = i by omega]
          simpa using hci
        have hpos : 1 ≤ ((List.range k).filter fun i => decide ((f (s + i)).a = W)).length := List.length_pos_of_mem hmem
        have hsum : ∀ l : List Nat, ((l.filter fun i => decide (0 ≤ (f (s + i)).a ∧ (f (s + i)).a < (W : Int))).length + (l.filter fun i => decide ((f (s + i)).a = W)).length) =
            (l.filter fun i => decide (0 ≤ (f (s + i)).a ∧ (f (s + i)).a < ((W + 1 : Nat) : Int))).length := by
          intro l
          induction l with
          | nil => rfl
          | cons x l ihl =>
            simp only [List.filter_cons]
            by_cases c1 : (f (s + x)).a = W
            · have c2 : ¬ (0 ≤ (f (s + x)).a ∧ (f (s + x)).a < (W : Int)) := by omega
              have c3 : (0 ≤ (f (s + x)).a ∧ (f (s + x)).a < ((W + 1 : Nat) : Int)) := by omega
              rw [if_neg (by simpa using c2), if_pos (by simpa using c1), if_pos (by simpa using c3)]
              simp only [List.length_cons]
              omega
            · by_cases c2 : (0 ≤ (f (s + x)).a ∧ (f (s + x)).a < (W : Int))
              · have c3 : (0 ≤ (f (s + x)).a ∧ (f (s + x)).a < ((W + 1 : Nat) : Int)) := by omega
                rw [if_pos (by simpa using c2), if_neg (by simpa using c1), if_pos (by simpa using c3)]
                simp only [List.length_cons]
                omega
              · have c3 : ¬ (0 ≤ (f (s + x)).a ∧ (f (s + x)).a < ((W + 1 : Nat) : Int)) := by omega
                rw [if_neg (by simpa using c2), if_neg (by simpa using c1), if_neg (by simpa using c3)]
                exact ihl
        have := hsum (List.range k)
        omega
    have h1 := hl W hall
    have h2 := List.length_filter_le (fun i => decide (0 ≤ (f (s + i)).a ∧ (f (s + i)).a < (W : Int))) (List.range k)
    rw [List.length_range] at h2
    omega

theorem least_bounds (f : Nat → Ent) (n : Nat) (W : Int) : 1 ≤ least f n W ∧ least f n W ≤ n + 1 := by
  unfold least
  split
  · omega
  · have := longest_bounds f n W.toNat; omega

theorem fairK_toNat (f : Nat → Ent) (n : Nat) (W : Int) (k : Nat) : fairK f n W k ↔ fairK f n (W.toNat : Nat) k := by
  unfold fairK
  constructor
  · intro h s hs w hw; exact h s hs w (by omega)
  · intro h s hs w hw; exact h s hs w (by omega)

/-- the script is fair by 'k' from the least on, and not below it. -/
theorem fair_iff (f : Nat → Ent) (n : Nat) (W : Int) (k : Nat) (hk : 1 ≤ k) : fairK f n W k ↔ least f n W ≤ k := by
  unfold least
  split
  · rename_i hW
    constructor
    · intro h
      by_cases hn : n < k
      · omega
      · exfalso
        obtain ⟨w, hw, hno⟩ := pigeon f k 0 W.toNat (by omega)
        exact hno (h 0 (by omega) w (by omega))
    · intro h s hs
      omega
  · rename_i hW
    rw [fairK_toNat]
    constructor
    · intro h
      by_cases hc : longest f n W.toNat < k
      · omega
      · exact absurd h (longest_least f n W.toNat k (by omega) hk)
    · intro h
      exact longest_fair f n W.toNat k (by omega)

end Go.Proofs.Ytniopaimhncmkaa.Plain

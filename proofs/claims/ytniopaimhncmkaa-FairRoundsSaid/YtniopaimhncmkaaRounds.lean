/- Plain laws on scripts of rounds: each of all workers in turn; with one left out. -/
import Derived.Test.YtniopaimhncmkaaPlain
set_option linter.unusedVariables false
set_option linter.unusedSimpArgs false
namespace Go.Proofs.Ytniopaimhncmkaa.Plain

def roundF (w : Nat) (i : Nat) : Ent := ⟨1, (i : Int) % (w : Int), 1 + (i : Int)⟩

def goneF (w g : Nat) (i : Nat) : Ent := if i = g then ⟨1, (i : Int) % (w : Int), 0⟩ else roundF w i

theorem round_hit {w i r : Nat} (hw : 0 < w) (h : i % w = r) : hit r (roundF w i) := by
  refine ⟨rfl, ?_, ?_⟩
  · show (i : Int) % (w : Int) = r
    rw [← h]; omega
  · show 1 ≤ 1 + (i : Int); omega

theorem round_res {w i r : Nat} (h : hit r (roundF w i)) : i % w = r := by
  have h2 : (i : Int) % (w : Int) = r := h.2.1
  omega

/-- in each window of 'w' there is one of each residue. -/
theorem residue (w s r : Nat) (hw : 0 < w) (hr : r < w) : ∃ i, s ≤ i ∧ i < s + w ∧ i % w = r := by
  have h1 := Nat.mod_lt s hw
  have h2 := Nat.div_add_mod s w
  by_cases h : s % w ≤ r
  · refine ⟨s - s % w + r, by omega, by omega, ?_⟩
    have e : s - s % w + r = r + w * (s / w) := by omega
    rw [e, Nat.add_mul_mod_self_left, Nat.mod_eq_of_lt hr]
  · refine ⟨s - s % w + w + r, by omega, by omega, ?_⟩
    have e : s - s % w + w + r = r + w * (s / w + 1) := by rw [Nat.mul_add]; omega
    rw [e, Nat.add_mul_mod_self_left, Nat.mod_eq_of_lt hr]

theorem round_least (w N : Nat) (hw : 0 < w) (hN : w ≤ N) : least (roundF w) N w = w := by
  have lb := least_bounds (roundF w) N w
  have h1 : least (roundF w) N w ≤ w := (fair_iff _ N w w hw).1 fun s hs r hr => by
    obtain ⟨i, a, b, c⟩ := residue w s r hw (by omega)
    exact ⟨i, a, b, round_hit hw c⟩
  by_cases h2 : w = 1
  · omega
  · have h3 : ¬ least (roundF w) N w ≤ ((w - 1 : Nat) : Int) := fun h => by
      have hf := (fair_iff _ N w (w - 1) (by omega)).2 h
      obtain ⟨i, a, b, c⟩ := hf 0 (by omega) (w - 1) (by omega)
      have := round_res c
      rw [Nat.mod_eq_of_lt (by omega)] at this
      omega
    omega

theorem gone_least (w N g : Nat) (hw : 0 < w) (hN : 2 * w ≤ N) (hg : g < N) : (w : Int) < least (goneF w g) N w ∧ least (goneF w g) N w ≤ 2 * (w : Int) := by
  have lb := least_bounds (goneF w g) N w
  constructor
  · have h3 : ¬ least (goneF w g) N w ≤ (w : Int) := fun h => by
      have hf := (fair_iff _ N w w hw).2 h
      obtain ⟨s, hs1, hs2, hs3⟩ : ∃ s, s ≤ g ∧ g < s + w ∧ s + w ≤ N := by
        by_cases hx : g + w ≤ N
        · exact ⟨g, by omega, by omega, hx⟩
        · exact ⟨N - w, by omega, by omega, by omega⟩
      obtain ⟨i, a, b, c⟩ := hf s hs3 (g % w) (by have := Nat.mod_lt g hw; omega)
      unfold goneF at c
      by_cases e : i = g
      · rw [if_pos e] at c
        have := c.2.2
        simp at this
      · rw [if_neg e] at c
        have h4 := round_res c
        have h5 := Nat.div_add_mod i w
        have h6 := Nat.div_add_mod g w
        rw [h4] at h5
        by_cases e2 : i / w = g / w
        · rw [e2] at h5; omega
        · rcases Nat.lt_or_gt_of_ne e2 with h7 | h7
          · have : w * (i / w + 1) ≤ w * (g / w) := Nat.mul_le_mul_left w h7
            rw [Nat.mul_add] at this
            omega
          · have : w * (g / w + 1) ≤ w * (i / w) := Nat.mul_le_mul_left w h7
            rw [Nat.mul_add] at this
            omega
    omega
  · have h1 : least (goneF w g) N w ≤ ((2 * w : Nat) : Int) := (fair_iff _ N w (2 * w) (by omega)).1 fun s hs r hr => by
      obtain ⟨i, a, b, c⟩ := residue w s r hw (by omega)
      obtain ⟨i', a', b', c'⟩ := residue w (s + w) r hw (by omega)
      by_cases e : i = g
      · refine ⟨i', by omega, by omega, ?_⟩
        unfold goneF
        rw [if_neg (by omega)]
        exact round_hit hw c'
      · refine ⟨i, a, by omega, ?_⟩
        unfold goneF
        rw [if_neg e]
        exact round_hit hw c
    omega

theorem gone_more (w N g : Nat) (hw : 0 < w) (hN : 1 ≤ N) : ¬ least (goneF w g) N ((w : Int) + 1) ≤ (N : Int) := fun h => by
  have hf := (fair_iff _ N ((w : Int) + 1) N hN).2 h
  obtain ⟨i, a, b, c⟩ := hf 0 (by omega) w (by omega)
  have hm := Nat.mod_lt i hw
  unfold goneF at c
  by_cases e : i = g
  · rw [if_pos e] at c
    have := c.2.2
    simp at this
  · rw [if_neg e] at c
    have := round_res c
    omega

end Go.Proofs.Ytniopaimhncmkaa.Plain

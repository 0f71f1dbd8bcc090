/- Walks of the fair functions, part C: contracts of Least, Fair, Bound, Place, awake. -/
import Derived.Test.YtniopaimhncmkaaWalkB
set_option linter.unusedVariables false
set_option linter.unusedSimpArgs false
namespace Go.Proofs.Ytniopaimhncmkaa
open Go.RowKit Go.Proofs.Ytniopaimhncmkaa.Plain

def fairB (f : Nat → Ent) (n : Nat) (W k : Int) : Bool := decide (1 ≤ k) && decide (least f n W ≤ k)

set_option maxHeartbeats 1000000 in
set_option maxRecDepth 100000 in
theorem fair_any (A : Option Addr) (n cap : Nat) (f : Nat → Ent) (W k : Int) (w : World) (hs : ScriptAt w A n f) (hn : n ≤ 1000000000) (hcap : n ≤ cap) (hW : W ≤ 64 ∨ (n : Int) < W) :
    Calls Try.prog 12 #[.slice A n cap, .int .i64 W, .int .i64 k] w fun e w' => e = .returned (.bool (fairB f n W k)) ∧ Below w.heap.size w w' := by
  have HC := Lib.hid (least_any A n cap f W w hs hn hcap hW)
  clear hs
  by_cases c0 : 1 ≤ k
  · have Hv : Hid (fairB f n W k = decide (least f n W ≤ k)) := by unfold Hid fairB; simp [c0]
    go_enter Try.func12, Try.ntmps12
    go_wp2_with (go_at_call 15; refine HC.out.mono ?_; rintro e w' ⟨rfl, hbel⟩)
    go_ret
    exact ⟨by rw [Hv.out]; rfl, hbel⟩
  · have Hv : Hid (fairB f n W k = false) := by unfold Hid fairB; simp [c0]
    go_enter Try.func12, Try.ntmps12
    go_wp2
    go_ret
    exact ⟨by rw [Hv.out]; rfl, Below.refl _ _⟩

def boundI (k p : Int) : Int := if k < 1 ∨ p < 0 then 0 else if 1125899906842624 / (p / 4 + 1) < k then 1125899906842624 else k * (p / 4 + 1)

theorem mul_fits (k p : Int) (h0 : 1 ≤ k) (h1 : 0 ≤ p) (h : ¬ 1125899906842624 / (p / 4 + 1) < k) : 0 ≤ k * (p / 4 + 1) ∧ k * (p / 4 + 1) ≤ 1125899906842624 := by
  have h2 : 0 < p / 4 + 1 := by omega
  have h3 : k ≤ 1125899906842624 / (p / 4 + 1) := by omega
  exact ⟨Int.mul_nonneg (by omega) (by omega), (Int.le_ediv_iff_mul_le h2).1 h3⟩

set_option maxHeartbeats 1000000 in
set_option maxRecDepth 100000 in
theorem bound_any (k p : Int) (w : World) (hp : p ≤ 9223372036854775807) :
    Calls Try.prog 8 #[.int .i64 k, .int .i64 p] w fun e w' => e = .returned (.int .i64 (boundI k p)) ∧ w = w' := by
  by_cases c0 : k < 1
  · have Hv : Hid (boundI k p = 0) := by unfold Hid boundI; rw [if_pos (.inl c0)]
    go_enter Try.func8, Try.ntmps8
    go_wp2
    go_ret
    exact ⟨by rw [Hv.out]; rfl, rfl⟩
  · by_cases c1 : p < 0
    · have Hv : Hid (boundI k p = 0) := by unfold Hid boundI; rw [if_pos (.inr c1)]
      go_enter Try.func8, Try.ntmps8
      go_wp2
      go_ret
      exact ⟨by rw [Hv.out]; rfl, rfl⟩
    · have hp0 : 0 ≤ p := by omega
      have hk : 1 ≤ k := by omega
      by_cases c2 : 1125899906842624 / (p / 4 + 1) < k
      · have Hv : Hid (boundI k p = 1125899906842624) := by unfold Hid boundI; rw [if_neg (by omega), if_pos c2]
        go_enter Try.func8, Try.ntmps8
        go_wp2
        go_ret
        exact ⟨by rw [Hv.out]; rfl, rfl⟩
      · have Hv : Hid (boundI k p = k * (p / 4 + 1)) := by unfold Hid boundI; rw [if_neg (by omega), if_neg c2]
        have hm := mul_fits k p hk hp0 c2
        go_enter Try.func8, Try.ntmps8
        go_wp2
        go_ret
        exact ⟨by rw [Hv.out]; rfl, rfl⟩

set_option maxHeartbeats 1000000 in
set_option maxRecDepth 100000 in
theorem refBound_any (k p : Int) (w : World) (hp : p ≤ 9223372036854775807) :
    Calls Try.prog 9 #[.int .i64 k, .int .i64 p] w fun e w' => e = .returned (.int .i64 (boundI k p)) ∧ w = w' := by
  by_cases c0 : k < 1
  · have Hv : Hid (boundI k p = 0) := by unfold Hid boundI; rw [if_pos (.inl c0)]
    go_enter Try.func9, Try.ntmps9
    go_wp2
    go_ret
    exact ⟨by rw [Hv.out]; rfl, rfl⟩
  · by_cases c1 : p < 0
    · have Hv : Hid (boundI k p = 0) := by unfold Hid boundI; rw [if_pos (.inr c1)]
      go_enter Try.func9, Try.ntmps9
      go_wp2
      go_ret
      exact ⟨by rw [Hv.out]; rfl, rfl⟩
    · have hp0 : 0 ≤ p := by omega
      have hk : 1 ≤ k := by omega
      by_cases c2 : 1125899906842624 / (p / 4 + 1) < k
      · have Hv : Hid (boundI k p = 1125899906842624) := by unfold Hid boundI; rw [if_neg (by omega), if_pos c2]
        go_enter Try.func9, Try.ntmps9
        go_wp2
        go_ret
        exact ⟨by rw [Hv.out]; rfl, rfl⟩
      · have Hv : Hid (boundI k p = k * (p / 4 + 1)) := by unfold Hid boundI; rw [if_neg (by omega), if_neg c2]
        have hm := mul_fits k p hk hp0 c2
        go_enter Try.func9, Try.ntmps9
        go_wp2
        go_ret
        exact ⟨by rw [Hv.out]; rfl, rfl⟩

def placeI (v n : Int) : Int := if v.tmod n < 0 then v.tmod n + n else v.tmod n

theorem placeI_eq (v n : Int) (hn : 0 < n) : placeI v n = v % n := by
  unfold placeI
  have h1 := Int.emod_nonneg v (b := n) (by omega)
  have h2 := Int.emod_lt_of_pos v hn
  by_cases hv : 0 ≤ v
  · rw [Int.tmod_eq_emod_of_nonneg hv, if_neg (by omega)]
  · have h3 := Int.tmod_def v n
    have h4 : v.tmod n = v % n ∨ v.tmod n = v % n - n := by
      rw [Int.tmod_eq_emod]
      split
      · exact .inl (by omega)
      · exact .inr (by rw [show (n.natAbs : Int) = n by omega])
    have h5 : v.tmod n ≤ 0 := by
      have h6 : 0 ≤ (-v).tmod n := Int.tmod_nonneg n (by omega)
      rw [Int.neg_tmod] at h6
      omega
    rcases h4 with h | h
    · rw [h] at h5 ⊢
      have : v % n = 0 := by omega
      rw [this]; simp
    · rw [h, if_pos (by omega)]; omega

set_option maxHeartbeats 1000000 in
set_option maxRecDepth 100000 in
theorem place_any (v n : Int) (w : World) (hv0 : -9223372036854775808 ≤ v) (hv1 : v ≤ 9223372036854775807) (hn : 1 ≤ n) (hn1 : n ≤ 1000000000000) :
    Calls Try.prog 11 #[.int .i64 v, .int .i64 n] w fun e w' => e = .returned (.int .i64 (v % n)) ∧ w = w' := by
  have Hp := Lib.hid (placeI_eq v n (by omega))
  have b1 : -n < v.tmod n ∧ v.tmod n < n := by
    have := Int.lt_tmod_of_pos v (b := n) (by omega)
    have := Int.tmod_lt_of_pos v (b := n) (by omega)
    omega
  by_cases c : v.tmod n < 0
  · have Hv : Hid (placeI v n = v.tmod n + n) := by unfold Hid placeI; rw [if_pos c]
    go_enter Try.func11, Try.ntmps11
    go_wp2
    go_ret
    exact ⟨by rw [← Hp.out, Hv.out]; rfl, rfl⟩
  · have Hv : Hid (placeI v n = v.tmod n) := by unfold Hid placeI; rw [if_neg c]
    go_enter Try.func11, Try.ntmps11
    go_wp2
    go_ret
    exact ⟨by rw [← Hp.out, Hv.out]; rfl, rfl⟩

end Go.Proofs.Ytniopaimhncmkaa

/- Walks of the fair functions, part B: contracts of Least, Fair, Bound, Place, awake. -/
import Derived.Test.YtniopaimhncmkaaWalkA
set_option linter.unusedVariables false
set_option linter.unusedSimpArgs false
namespace Go.Proofs.Ytniopaimhncmkaa
open Go.RowKit Go.Proofs.Ytniopaimhncmkaa.Plain

/-- a slice of 'n' entries that reads as 'f'. -/
def ScriptAt (w : World) (A : Option Addr) (n : Nat) (f : Nat → Ent) : Prop :=
  0 < n → ∃ b off, A = some ⟨b, off, none⟩ ∧ b < w.heap.size ∧ (∀ i, i < n → EntAt w b (off + i * 10) (f i)) ∧ (∀ i, -9223372036854775808 ≤ (f i).a ∧ (f i).a ≤ 9223372036854775807)

theorem longest_zero (f : Nat → Ent) (n : Nat) : longest f n 0 = 0 := by
  have h := ok_run (0 : Nat) f n
  rcases h.some_ with h0 | ⟨k, s, hk, _⟩
  · exact h0
  · omega

theorem below_of_eq {w w' : World} (h : w' = w) : Below w.heap.size w w' := by subst h; exact Below.refl _ _

set_option maxHeartbeats 1000000 in
set_option maxRecDepth 100000 in
theorem least_any (A : Option Addr) (n cap : Nat) (f : Nat → Ent) (W : Int) (w : World) (hs : ScriptAt w A n f) (hn : n ≤ 1000000000) (hcap : n ≤ cap) (hW : W ≤ 64 ∨ (n : Int) < W) :
    Calls Try.prog 15 #[.slice A n cap, .int .i64 W] w fun e w' => e = .returned (.int .i64 (least f n W)) ∧ Below w.heap.size w w' := by
  by_cases c0 : (n : Int) < W
  · have hv : least f n W = n + 1 := by unfold least; rw [if_pos (by omega)]
    have Hv := Lib.hid hv
    clear hv
    go_enter Try.func15, Try.ntmps15
    go_wp2
    go_ret
    exact ⟨by rw [Hv.out]; rfl, Below.refl _ _⟩
  · have hW' : W ≤ 64 := by omega
    have hv : least f n W = longest f n W.toNat + 1 := by unfold least; rw [if_neg (by omega)]
    by_cases c1 : W ≤ 0
    · have hz : W.toNat = 0 := by omega
      rw [hz, longest_zero] at hv
      have Hv := Lib.hid hv
      clear hv hz hW
      go_enter Try.func15, Try.ntmps15
      go_wp2
      go_loop [5, 6] (fun n5 i6 => n5 = .int .i64 0 ∧ i6 = .int .i64 0) (fun _ _ => 0)
      case atStart => exact ⟨rfl, rfl⟩
      case round =>
        obtain ⟨rfl, rfl⟩ := hrel
        go_wp2
        go_ret
        exact ⟨by rw [Hv.out]; rfl, Below.refl _ _⟩
    · obtain ⟨b, off, rfl, hb, hc, hr⟩ := hs (by omega)
      obtain ⟨V, rfl⟩ : ∃ V : Nat, W = V := ⟨W.toNat, by omega⟩
      rw [Int.toNat_natCast] at hv
      have Hv := Lib.hid hv
      have lb := longest_bounds f n V
      clear hv hW
      have H := longest_any b off n cap f V w hb hn hcap (by omega) hc hr
      have HC := Lib.hid H
      clear H hc hr
      go_enter Try.func15, Try.ntmps15
      go_wp2
      go_loopw [5, 6] (fun n5 i6 wr => (n5 = .int .i64 0 ∧ i6 = .int .i64 0 ∧ wr = w) ∨ (n5 = .int .i64 (longest f n V) ∧ i6 = .int .i64 64 ∧ Below w.heap.size w wr)) (fun _ i _ => 64 - (intOf i).toNat)
      case atStart => exact .inl ⟨rfl, rfl, rfl⟩
      case round =>
        rcases hrel with ⟨rfl, rfl, rfl⟩ | ⟨rfl, rfl, hbel⟩
        · go_wp2_with (go_at_call 18; refine HC.out.mono ?_; rintro e w' ⟨rfl, hbel⟩)
          have hm : (if 0 < longest f n V then longest f n V else 0) = longest f n V := by split <;> omega
          exact ⟨.inr ⟨by rw [hm], rfl, hbel⟩, by simp [intOf]⟩
        · go_wp2
          go_ret
          exact ⟨by rw [Hv.out]; rfl, hbel⟩
end Go.Proofs.Ytniopaimhncmkaa

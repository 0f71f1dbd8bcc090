/- Walks of SameLongs at like lists, and of awake. -/
import Derived.Test.YtlbdfhbkemikgaaWalkH
set_option linter.unusedVariables false
set_option linter.unusedSimpArgs false
namespace Go.Proofs.Ytlbdfhbkemikgaa
open Go.RowKit Plain

def RetB (w : World) (e : Ending) (w' : World) : Prop := e = .returned (.bool true) ∧ Keep Nothing w w'

theorem sl_shape {w : World} {v : Value} {l : List Nat} (h : Sl w v l) : ∃ A c, v = .slice A l.length c ∧ (0 < l.length → ∃ g, A = some ⟨g, 0, none⟩) := by
  rcases sl_cases h with ⟨h1, h2⟩ | ⟨g, c, h1⟩
  · exact ⟨none, 0, by rw [h1, h2]; rfl, fun hp => by rw [h2] at hp; simp at hp⟩
  · exact ⟨_, c, h1, fun _ => ⟨g, rfl⟩⟩

theorem sl_keep {w w1 : World} {v : Value} {l : List Nat} (h : Sl w v l) (hk : Keep Nothing w w1) : Sl w1 v l := own_keep h hk (fun _ _ h => h)

set_option maxHeartbeats 1000000 in
set_option maxRecDepth 100000 in
theorem same_c (w : World) (v1 v2 : Value) (l : List Nat) (h1 : Sl w v1 l) (h2 : Sl w v2 l) (hl : l.length < 1000000000000) : Calls Try.prog 14 #[v1, v2] w (RetB w) := by
  obtain ⟨A1, c1, rfl, hA1⟩ := sl_shape h1
  obtain ⟨A2, c2, rfl, hA2⟩ := sl_shape h2
  by_cases hp : 0 < l.length
  · obtain ⟨g1, rfl⟩ := hA1 hp
    obtain ⟨g2, rfl⟩ := hA2 hp
    have H1 := Lib.hid h1
    have H2 := Lib.hid h2
    clear h1 h2 hA1 hA2
    go_enter Try.func14, Try.ntmps14
    go_wp2_with fail
    go_loopw [5] (fun i wr => ∃ k : Nat, k ≤ l.length ∧ i = .int .i64 (k : Int) ∧ Keep Nothing w wr) (fun i _ => l.length - (intOf i).toNat)
    case atStart => exact ⟨0, Nat.zero_le _, rfl, Keep.refl _ _⟩
    case round =>
      obtain ⟨k, hk, rfl, hkeep⟩ := hrel
      by_cases hkl : k < l.length
      · obtain ⟨id, hid⟩ : ∃ id, l[k]? = some id := ⟨l[k], List.getElem?_eq_getElem hkl⟩
        have e1 : wr.cell? ⟨g1, k, none⟩ = some (.int .i64 id) := sl_cell (sl_keep H1.out hkeep) hid
        have e2 : wr.cell? ⟨g2, k, none⟩ = some (.int .i64 id) := sl_cell (sl_keep H2.out hkeep) hid
        have gi : (k : Int) < (l.length : Int) := by omega
        have K1 := Lib.hid hkeep
        clear hkeep
        go_wp2_with fail
        go_quiet (fail)
        go_wp2
        exact ⟨⟨k + 1, hkl, by go_num, K1.out.drewN _⟩, by simp [intOf]; omega⟩
      · obtain rfl : k = l.length := by omega
        go_wp2
        go_ret
        exact ⟨rfl, hkeep⟩
  · have e : l.length = 0 := by omega
    rw [e]
    clear h1 h2 hA1 hA2
    go_enter Try.func14, Try.ntmps14
    go_wp2_with fail
    refine wp_loop_rounds 1 ?_
    rw [rounds_succ]
    go_wp2
    go_ret
    exact ⟨rfl, Keep.refl _ _⟩
end Go.Proofs.Ytlbdfhbkemikgaa

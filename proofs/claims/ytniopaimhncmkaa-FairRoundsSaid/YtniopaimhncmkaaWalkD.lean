/- Walks of the fair functions, part D: contracts of Least, Fair, Bound, Place, awake. -/
import Derived.Test.YtniopaimhncmkaaWalkC
set_option linter.unusedVariables false
set_option linter.unusedSimpArgs false
namespace Go.Proofs.Ytniopaimhncmkaa
open Go.RowKit Go.Proofs.Ytniopaimhncmkaa.Plain

def awakeF : Nat → Ent
  | 0 => ⟨1, 0, 1⟩
  | 1 => ⟨1, 1, 1⟩
  | _ => ⟨1, 0, 1⟩

theorem awake_least : least awakeF 3 2 = 2 := by decide
theorem awake_b1 : boundI 2 0 = 2 := by decide
theorem awake_b2 : boundI 2 4 = 4 := by decide

def awakeCells : Array Value := #[Value.int IntKind.i64 1, Value.int IntKind.i64 0, Value.int IntKind.i64 1, Value.string { data := #[] },
          Value.int IntKind.i64 0, Value.int IntKind.i64 0, Value.string { data := #[] }, Value.slice none 0 0,
          Value.slice none 0 0, Value.slice none 0 0, Value.int IntKind.i64 1, Value.int IntKind.i64 1,
          Value.int IntKind.i64 1, Value.string { data := #[] }, Value.int IntKind.i64 0, Value.int IntKind.i64 0,
          Value.string { data := #[] }, Value.slice none 0 0, Value.slice none 0 0, Value.slice none 0 0,
          Value.int IntKind.i64 1, Value.int IntKind.i64 0, Value.int IntKind.i64 1, Value.string { data := #[] },
          Value.int IntKind.i64 0, Value.int IntKind.i64 0, Value.string { data := #[] }, Value.slice none 0 0,
          Value.slice none 0 0, Value.slice none 0 0]

theorem cell_new (w : World) (cs : Array Value) (t : TypeId) (i : Nat) : (w.alloc (.cells cs t)).cell? ⟨w.heap.size, i, none⟩ = cs[i]? :=
  cell_of_row _ _ i cs t (0, 0) (heap_alloc_new w _)

theorem awake_script (w : World) : ScriptAt (w.alloc (.cells awakeCells 34)) (some ⟨w.heap.size, 0, none⟩) 3 awakeF := by
  intro _
  refine ⟨w.heap.size, 0, rfl, by simp, ?_, ?_⟩
  · intro i hi
    have h : i = 0 ∨ i = 1 ∨ i = 2 := by omega
    rcases h with rfl | rfl | rfl
    all_goals
      unfold EntAt
      simp only [cell_new]
      exact ⟨⟨#[]⟩, ⟨#[]⟩, 0, 0, none, none, none, 0, 0, 0, 0, 0, 0, rfl, rfl, rfl, rfl, rfl, rfl, rfl, rfl, rfl, rfl⟩
  · intro i
    unfold awakeF
    split <;> simp

set_option maxHeartbeats 1000000 in
set_option maxRecDepth 100000 in
theorem awake_any (w : World) : Calls Try.prog 10 #[] w fun e w' => e = .returned (.bool true) ∧ Below w.heap.size w w' := by
  have HC := Lib.hid (least_any (some ⟨w.heap.size, 0, none⟩) 3 3 awakeF 2 _ (awake_script w) (by omega) (by omega) (.inl (by omega)))
  rw [awake_least] at HC
  have H1 := Lib.hid fun W => bound_any 2 0 W (by omega)
  have H2 := Lib.hid fun W => bound_any 2 4 W (by omega)
  rw [awake_b1] at H1
  rw [awake_b2] at H2
  go_enter Try.func10, Try.ntmps10
  go_wp2_with fail
  refine HC.out.mono ?_
  rintro e w1 ⟨rfl, hbel⟩
  go_wp2_with fail
  refine (H1.out _).mono ?_
  rintro e w2 ⟨rfl, rfl⟩
  go_wp2_with fail
  refine (H2.out _).mono ?_
  rintro e w2 ⟨rfl, rfl⟩
  go_wp2_with fail
  go_ret
  exact ⟨rfl, ((Below.refl _ _).alloc (Nat.le_refl _) _).trans (hbel.mono (by simp))⟩
end Go.Proofs.Ytniopaimhncmkaa

/- The walk of New. -/
import Derived.Test.YtlbdfhbkemikgaaWalkC
import Derived.Laws.Tables
set_option linter.unusedVariables false
set_option linter.unusedSimpArgs false
namespace Go.Proofs.Ytlbdfhbkemikgaa
open Go.RowKit Plain

def V0 (g : Nat) (n : Int) (i : Nat) : Value :=
  if i < 1024 then .slice none 0 0 else if i = 1027 then .slice none 0 0 else if i = 1028 then .map (some g) else if i = 1029 then .int .i64 n else .int .i64 0

theorem V0_slot {g : Nat} {n : Int} {j : Nat} (h : isSlot j) : V0 g n j = .slice none 0 0 := by
  unfold V0
  rcases h with h | h
  · rw [if_pos h]
  · rw [if_neg (by omega), if_pos h]

def newCells (g : Nat) (n : Int) : Array Value := ((List.range 1032).map (V0 g n)).toArray

theorem built78 (g : Nat) (n : Int) : Try.prog.built 78 [(4, .map (some g)), (5, .int .i64 n)] = some (newCells g n) := by kernel_rfl

def S0 (n : Nat) : WS := ⟨0, 0, n, [], [], fun _ => [], 0, 0, 0⟩

theorem wp_new {ops : Array Oper} {rest : List Oper} {o : Oper} {a : Act} {Q : Exit → Act → World → Prop} {w : World} (hgd : o.guard = none) (x y : Operand) (hop : o.op = Op.build 78 #[(4, x), (5, y)]) (g : Nat) (n : Int)
    (hx : a.eval x = .map (some g)) (hy : a.eval y = .int .i64 n)
    (hK : ∀ cs, cs.size = 1032 → (∀ i, i < 1032 → cs[i]? = some (V0 g n i)) → wpList Try.prog ops Q rest (a.put o.dst (.agg cs)) w) : wpList Try.prog ops Q (o :: rest) a w := by
  refine wpList_plain hgd fun K' hK' => ?_
  have h := built78 g n
  refine wp_build 78 #[(4, x), (5, y)] hop ?_ ?_
  · simp [hx, hy, h]
  · simp only [List.map_toArray, List.map_cons, List.map_nil, hx, hy]
    rw [h]
    refine hK' _ _ (hK _ ?_ ?_)
    · simp [newCells]
    · intro i hi
      simp [newCells, hi]

set_option maxHeartbeats 1000000 in
set_option maxRecDepth 100000 in
theorem new_c (w : World) (n : Nat) (hn : 1 ≤ n) (hn1 : n ≤ 4096) :
    Calls Try.prog 9 #[iv n] w (fun e w' => ∃ p m V, e = .returned (.tuple #[.pointer (some ⟨p, 0, none⟩), .nilIface]) ∧ Wh w' p m V (S0 n) ∧ (∀ k, foot p m V k → w.heap.size ≤ k) ∧ Keep Nothing w w') := by
  have d1 : decide ((n : Int) < 1) = false := decide_eq_false (by omega)
  have d2 : decide ((n : Int) > 4096) = false := decide_eq_false (by omega)
  have mk : (Instr.makeMap 68 none).run Try.prog w = .ok (.map (some w.heap.size)) (w.alloc (.map #[] 0)) := by
    simp [Instr.makeMap, run_underlying Try.underlying68, go_sem]
  unfold iv
  go_enter Try.func9, Try.ntmps9
  go_wp2_with (refine wp_new rfl _ _ rfl _ _ rfl rfl ?_; intro cs hcs hc)
  go_ret2
  refine ⟨w.heap.size + 1, w.heap.size, V0 w.heap.size n, rfl, ?_, ?_, ((Keep.refl Nothing w).alloc _).alloc _⟩
  · have hrow := Row.new (w.alloc (.map #[] 0)) 78 cs
    rw [show (w.alloc (.map #[] 0)).heap.size = w.heap.size + 1 by simp] at hrow
    refine ⟨⟨cs, hrow, hcs, hc⟩, rfl, rfl, rfl, rfl, rfl, rfl, rfl, fun j hj => ?_, (MapAt.made w).of_block (Below.heap_alloc _ _ _ (by simp)), fun i j g hi hj hg _ => ?_⟩
    · have e : V0 w.heap.size n j = .slice none 0 0 := V0_slot hj
      rw [e, show lst (S0 n) j = [] by unfold lst; split <;> rfl]
      exact Sl.nil _
    · rw [V0_slot hi] at hg; simp [Value.ownBlock] at hg
  · rintro k (rfl | rfl | ⟨j, hj, hg⟩)
    · omega
    · omega
    · rw [V0_slot hj] at hg; simp [Value.ownBlock] at hg

set_option maxHeartbeats 1000000 in
set_option maxRecDepth 100000 in
theorem new_bad (w : World) (n : Int) (hn : n < 1 ∨ 4096 < n) (hn0 : -9223372036854775808 ≤ n) (hn1 : n ≤ 9223372036854775807) :
    Calls Try.prog 9 #[.int .i64 n] w (RetE w (fun e => .tuple #[.pointer none, e]) "wheel".toUTF8 n 1) := by
  have con := Lib.hid (fun w => at_c "wheel".toUTF8 n 1 w)
  by_cases c : n < 1
  · have d1 : decide (n < 1) = true := decide_eq_true c
    go_enter Try.func9, Try.ntmps9
    go_wp2_with (go_at_call 27; refine (con.out _).mono ?_; rintro e w1 ⟨g, rfl, hg, hrow, hkeep⟩)
    go_ret2
    exact ⟨g, rfl, hg, hrow, hkeep⟩
  · have d1 : decide (n < 1) = false := decide_eq_false c
    have d2 : n > 4096 := by omega
    go_enter Try.func9, Try.ntmps9
    go_wp2_with (go_at_call 27; refine (con.out _).mono ?_; rintro e w1 ⟨g, rfl, hg, hrow, hkeep⟩)
    go_ret2
    exact ⟨g, rfl, hg, hrow, hkeep⟩
end Go.Proofs.Ytlbdfhbkemikgaa

/- The document's wheel: ids; the links of errors. -/
import Derived.Test.YtlbdfhbkemikgaaRefD
set_option linter.unusedVariables false
set_option linter.unusedSimpArgs false
namespace Go.Proofs.Ytlbdfhbkemikgaa
open Go.RowKit Plain

theorem LT.keep {w w' : World} {v : Value} {L : List Tm} (h : LT w v L) (hk : Keep Nothing w w') : LT w' v L := h.of_block (fun g hg => hk.block g (h.lt hg) (fun h => h))

set_option maxHeartbeats 1000000 in
set_option maxRecDepth 100000 in
theorem ids_c (w : World) (v : Value) (L : List Tm) (h : LT w v L) (hL : L.length < 1000000000) :
    Calls Try.prog 25 #[v] w fun e w' => ∃ u, e = .returned u ∧ Sl w' u (ids L) ∧ Keep Nothing w w' := by
  obtain ⟨A, c, rfl, hc1, hc2, _, _, hp⟩ := h.shape
  have H := Lib.hid h
  have HP := Lib.hid hp
  clear h hp
  go_enter Try.func25, Try.ntmps25
  go_wp2_with fail
  go_loopw [3, 4] (fun m i wr => ∃ k : Nat, k ≤ L.length ∧ i = .int .i64 (k : Int) ∧ Sl wr m (ids (L.take k)) ∧ Keep Nothing w wr ∧ ∀ g, m.ownBlock = some g → w.heap.size ≤ g) (fun _ i _ => L.length - (intOf i).toNat)
  case atStart => exact ⟨0, Nat.zero_le _, rfl, Sl.nil w, Keep.refl _ _, fun g hg => by simp [Value.ownBlock] at hg⟩
  case round =>
    obtain ⟨k, hk, rfl, hs, hkeep, how⟩ := hrel
    have HW := Lib.hid how
    clear how
    have HS := Lib.hid hs
    have K := Lib.hid hkeep
    clear hs hkeep
    by_cases hkl : k < L.length
    · obtain ⟨g, rfl⟩ := HP.out (by omega)
      obtain ⟨t, ht⟩ : ∃ t, L[k]? = some t := ⟨_, List.getElem?_eq_getElem hkl⟩
      have hcell : wr.cell? ⟨g, k * 3, none⟩ = some (.int .i64 (t.id : Int)) := (H.out.keep K.out).cell (tcs_get ht).1
      have ht2 : Hid (ids (L.take (k + 1)) = ids (L.take k) ++ [t.id]) := by
        unfold Hid ids
        obtain ⟨h1, rfl⟩ := List.getElem?_eq_some_iff.1 ht
        rw [List.take_succ_eq_append_getElem h1, List.map_append]; rfl
      have hlen : (ids (L.take k)).length < 1000000000 := by simp [ids]; omega
      clear ht
      go_wp2_with (at_builtin
                   refine wp_append_one rfl _ _ rfl _ _ wr HS.out t.id rfl rfl (by omega) ?_
                   intro A1 n1 c1 w1 a1 a2 a3
                   have A1' := Lib.hid a1
                   have A2' := Lib.hid a2
                   have A3' := Lib.hid a3
                   clear a1 a2 a3)
      have hfin : Sl w1 (.slice A1 n1 c1) (ids (L.take (k + 1))) ∧ Keep Nothing w w1 ∧ ∀ g, (Value.slice A1 n1 c1).ownBlock = some g → w.heap.size ≤ g := by
        refine ⟨by rw [ht2.out]; exact A1'.out, K.out.grown A2'.out (fun g hg hl => by have := HW.out g hg; omega), fun g hg => ?_⟩
        rcases A3'.out g hg with h' | h'
        · exact HW.out g h'
        · exact Nat.le_trans K.out.size h'
      have HF := Lib.hid hfin
      clear hfin
      go_wp2_with fail
      exact ⟨⟨k + 1, by omega, by go_num, HF.out.1, HF.out.2.1, HF.out.2.2⟩, by simp [intOf]; omega⟩
    · obtain rfl : k = L.length := by omega
      rw [List.take_length] at HS
      go_wp2_with fail
      go_ret
      exact ⟨_, rfl, HS.out, K.out⟩

/-! ### links -/
theorem Try.lkInfo : (Try.prog.info? 109).map (fun i => (i.zero, i.size, i.bytes)) = some (some (.agg #[.string ⟨#[]⟩, .int .i64 0, .int .i64 0]), 3, 32) := by kernel_rfl

def lk (op : ByteArray) (n k : Int) : List Value := [.string op, .int .i64 n, .int .i64 k]
def LK (w : World) (v : Value) (op : ByteArray) (n k : Int) : Prop := LRow w 109 3 v 2 (lk op n 0 ++ lk ⟨#[]⟩ 0 k)
theorem LK.keep {w w' : World} {v : Value} {op : ByteArray} {n k : Int} (h : LK w v op n k) (hk : Keep Nothing w w') : LK w' v op n k := h.of_block (fun g hg => hk.block g (h.lt hg) (fun h => h))

def RetLK (w : World) (x : Value → Value) (op : ByteArray) (n k : Int) (e : Ending) (w' : World) : Prop :=
  ∃ g c, e = .returned (x (.slice (some ⟨g, 0, none⟩) 2 c)) ∧ LK w' (.slice (some ⟨g, 0, none⟩) 2 c) op n k ∧ Keep Nothing w w'

theorem ta97 (v : Value) (w : World) : (Instr.typeAssert (.iface 97 v) 25 97 true).run Try.prog w = .ok (.tuple #[v, .bool true]) w := by
  simp [Instr.typeAssert, run_underlying Try.underlying97, Result.andThen]
theorem ta67 (v : Value) (w : World) : (Instr.typeAssert (.iface 67 v) 25 67 true).run Try.prog w = .ok (.tuple #[v, .bool true]) w := by
  simp [Instr.typeAssert, run_underlying Try.underlying67, Result.andThen]
theorem zero97 (w : World) : (zeroValue 97).run Try.prog w = .ok (.pointer none) w := by kernel_rfl
theorem ta67_97 (v : Value) (w : World) : (Instr.typeAssert (.iface 67 v) 25 97 true).run Try.prog w = .ok (.tuple #[.pointer none, .bool false]) w := by
  simp [Instr.typeAssert, run_underlying Try.underlying97, Result.andThen, zero97]

theorem links_nil (w : World) : Calls Try.prog 37 #[.nilIface] w fun e w' => e = .returned (.tuple #[.slice none 0 0, .bool true]) ∧ w' = w := by
  go_enter Try.func37, Try.ntmps37
  go_wp2_with fail
  refine wp_loop_rounds 1 ?_
  rw [rounds_succ]
  go_wp2_with fail
  go_ret2
  exact ⟨rfl, rfl⟩

theorem rlinks_nil (w : World) : Calls Try.prog 39 #[.pointer none] w fun e w' => e = .returned (.slice none 0 0) ∧ w' = w := by
  go_enter Try.func39, Try.ntmps39
  go_wp2_with fail
  refine wp_loop_rounds 1 ?_
  rw [rounds_succ]
  go_wp2_with fail
  go_ret
  exact ⟨rfl, rfl⟩

set_option maxHeartbeats 1000000 in
set_option maxRecDepth 100000 in
theorem links_at (w : World) (g : Nat) (op : ByteArray) (n k : Int) (h : Row w g 99 #[.string op, .int .i64 n, .iface 67 (.int .i64 k)]) (hk : k ≠ 0) :
    Calls Try.prog 37 #[.iface 97 (.pointer (some ⟨g, 0, none⟩))] w (RetLK w (fun v => .tuple #[v, .bool true]) op n k) := by
  obtain ⟨i0, hi0, hz0, hz1, hz2⟩ := info_parts Try.lkInfo
  have k0 : w.cell? ⟨g, 0, none⟩ = some (.string op) := h.cell 0
  have k1 : w.cell? ⟨g, 1, none⟩ = some (.int .i64 n) := h.cell 1
  have k2 : w.cell? ⟨g, 2, none⟩ = some (.iface 67 (.int .i64 k)) := h.cell 2
  have kz : (k != 0) = true := by simpa using hk
  have glt := h.lt
  have H := Lib.hid h
  clear h
  have t1 := ta97
  have t2 := ta67
  have t3 := ta67_97
  go_enter Try.func37, Try.ntmps37
  go_wp2_with fail
  refine wp_loop_rounds 2 ?_
  rw [rounds_succ]
  go_wp2_with fail
  have HC : Hid (∀ o, LRow (w.drew.alloc o) 109 3 (.slice none 0 0) 0 []) := fun o => LRow.nil _ _ _
  have HR : Hid (Src (w.drew.alloc (.cells #[.string op, .int .i64 n, .int .i64 0] 109)) 3 (some ⟨w.heap.size, 0, none⟩) 1 (lk op n 0)) := by
    refine ⟨rfl, fun _ => ⟨_, rfl, fun j u hu => ?_⟩⟩
    have hr : Row (w.drew.alloc (.cells #[.string op, .int .i64 n, .int .i64 0] 109)) w.heap.size 109 #[.string op, .int .i64 n, .int .i64 0] := Row.new w.drew 109 _
    rw [addr_add0, Nat.zero_add, hr.cell j]
    simpa [lk] using hu
  go_region_law
    ((refine step_append_loose (w.drew.alloc (.cells #[.string op, .int .i64 n, .int .i64 0] 109)) (by rfl) (.tmp 24) (.tmp 34) 91 (by rfl) 109 i0 (.agg #[.string ⟨#[]⟩, .int .i64 0, .int .i64 0]) 3 32 Try.underlying91 hi0 hz0 hz1 hz2 (by rfl) (by omega) (.slice none 0 0) 0 [] (by rfl) (HC.out _) (some ⟨w.heap.size, 0, none⟩) 1 1 (lk op n 0) (by rfl) HR.out (by intro u hu; simp [lk] at hu; rcases hu with rfl | rfl | rfl <;> rfl) (by unfold maxLen; omega) (by omega) ?_
      intro v3 w3 a1 a2 a3
      obtain ⟨A3, c3, rfl, _⟩ := a1.shape
      have hrow := (a2.block g (by simp; omega) (by simp [Value.ownBlock])).trans ((Below.heap_alloc w.drew _ g glt).trans H.out)
      have k4 := Row.cell hrow 2
      have A1' := Lib.hid a1
      have A2' := Lib.hid a2
      have A3' := Lib.hid a3
      clear a1 a2 a3))
  all_goals
    have glt3 : w.heap.size + 1 ≤ w3.heap.size := by have := A2'.out.size; simpa using this
    have HC3 : Hid (∀ o, LRow (w3.alloc o) 109 3 (.slice A3 1 c3) 1 (lk op n 0)) := fun o => by
      have h1 : LRow w3 109 3 (.slice A3 1 c3) 1 (lk op n 0) := A1'.out
      exact h1.of_block (fun g hg => Below.heap_alloc w3 _ g (h1.lt hg))
    have HR3 : Hid (Src (w3.alloc (.cells #[.string ⟨#[]⟩, .int .i64 0, .int .i64 k] 109)) 3 (some ⟨w3.heap.size, 0, none⟩) 1 (lk ⟨#[]⟩ 0 k)) := by
      refine ⟨rfl, fun _ => ⟨_, rfl, fun j u hu => ?_⟩⟩
      have hr : Row (w3.alloc (.cells #[.string ⟨#[]⟩, .int .i64 0, .int .i64 k] 109)) w3.heap.size 109 #[.string ⟨#[]⟩, .int .i64 0, .int .i64 k] := Row.new w3 109 _
      rw [addr_add0, Nat.zero_add, hr.cell j]
      simpa [lk] using hu
    clear k0 k1 k2
    go_wp2_with fail
    rw [rounds_succ]
    go_wp2_with (at_builtin
                 refine wpList_append_loose (w3.alloc (.cells #[.string ⟨#[]⟩, .int .i64 0, .int .i64 k] 109)) (by rfl) (.tmp 43) (.tmp 46) 91 (by rfl) 109 i0 (.agg #[.string ⟨#[]⟩, .int .i64 0, .int .i64 0]) 3 32 Try.underlying91 hi0 hz0 hz1 hz2 (by rfl) (by omega) (.slice A3 1 c3) 1 (lk op n 0) (by rfl) (HC3.out _) (some ⟨w3.heap.size, 0, none⟩) 1 1 (lk ⟨#[]⟩ 0 k) (by rfl) HR3.out (by intro u hu; simp [lk] at hu; rcases hu with rfl | rfl | rfl <;> rfl) (by unfold maxLen; omega) (by omega) ?_
                 intro v5 w5 b1 b2 b3
                 obtain ⟨A5, c5, rfl, _, _, _, _, b4⟩ := b1.shape
                 obtain ⟨g5, rfl⟩ := b4 (by omega)
                 have B1' := Lib.hid b1
                 have B2' := Lib.hid b2
                 clear b1 b2 b3 b4)
    go_ret2
    refine ⟨g5, c5, rfl, B1'.out, ?_⟩
    have K1 : Keep Nothing w w3 := (Keep.refl _ w).grown (undrew ((World.grownBy_alloc w.drew _ _).trans A2'.out)) (fun k hk => by simp [Value.ownBlock] at hk)
    refine K1.grown ((World.grownBy_alloc w3 _ _).trans B2'.out) (fun k hk hl => ?_)
    rcases A3'.out k hk with h | h
    · simp [Value.ownBlock] at h
    · simp at h; omega

set_option maxHeartbeats 1000000 in
set_option maxRecDepth 100000 in
theorem rlinks_at (w : World) (g : Nat) (op : ByteArray) (n k : Int) (h : XRow w g op n k) :
    Calls Try.prog 39 #[.pointer (some ⟨g, 0, none⟩)] w (RetLK w (fun v => v) op n k) := by
  obtain ⟨i0, hi0, hz0, hz1, hz2⟩ := info_parts Try.lkInfo
  obtain ⟨x, h, hx⟩ := h
  have k0 : w.cell? ⟨g, 0, none⟩ = some (.string op) := h.cell 0
  have k1 : w.cell? ⟨g, 1, none⟩ = some (.int .i64 n) := h.cell 1
  have k2 : w.cell? ⟨g, 2, none⟩ = some (.pointer (some ⟨x, 0, none⟩)) := h.cell 2
  have glt := h.lt
  have xlt := hx.lt
  have H := Lib.hid h
  have HX := Lib.hid hx
  clear h hx
  go_enter Try.func39, Try.ntmps39
  go_wp2_with fail
  refine wp_loop_rounds 2 ?_
  rw [rounds_succ]
  go_wp2_with fail
  have HC : Hid (∀ o, LRow (w.drew.alloc o) 109 3 (.slice none 0 0) 0 []) := fun o => LRow.nil _ _ _
  have HR : Hid (Src (w.drew.alloc (.cells #[.string op, .int .i64 n, .int .i64 0] 109)) 3 (some ⟨w.heap.size, 0, none⟩) 1 (lk op n 0)) := by
    refine ⟨rfl, fun _ => ⟨_, rfl, fun j u hu => ?_⟩⟩
    have hr : Row (w.drew.alloc (.cells #[.string op, .int .i64 n, .int .i64 0] 109)) w.heap.size 109 #[.string op, .int .i64 n, .int .i64 0] := Row.new w.drew 109 _
    rw [addr_add0, Nat.zero_add, hr.cell j]
    simpa [lk] using hu
  go_region_law
    ((refine step_append_loose (w.drew.alloc (.cells #[.string op, .int .i64 n, .int .i64 0] 109)) (by rfl) (.tmp 19) (.tmp 29) 91 (by rfl) 109 i0 (.agg #[.string ⟨#[]⟩, .int .i64 0, .int .i64 0]) 3 32 Try.underlying91 hi0 hz0 hz1 hz2 (by rfl) (by omega) (.slice none 0 0) 0 [] (by rfl) (HC.out _) (some ⟨w.heap.size, 0, none⟩) 1 1 (lk op n 0) (by rfl) HR.out (by intro u hu; simp [lk] at hu; rcases hu with rfl | rfl | rfl <;> rfl) (by unfold maxLen; omega) (by omega) ?_
      intro v3 w3 a1 a2 a3
      obtain ⟨A3, c3, rfl, _⟩ := a1.shape
      have hrow := (a2.block g (by simp; omega) (by simp [Value.ownBlock])).trans ((Below.heap_alloc w.drew _ g glt).trans H.out)
      have hrx := (a2.block x (by simp; omega) (by simp [Value.ownBlock])).trans ((Below.heap_alloc w.drew _ x xlt).trans HX.out)
      have k4 := Row.cell hrow 2
      have k5 := Row.cell hrx 2
      have k6 := Row.cell hrx 3
      have A1' := Lib.hid a1
      have A2' := Lib.hid a2
      have A3' := Lib.hid a3
      clear a1 a2 a3))
  all_goals
    have glt3 : w.heap.size + 1 ≤ w3.heap.size := by have := A2'.out.size; simpa using this
    have HC3 : Hid (∀ o, LRow (w3.alloc o) 109 3 (.slice A3 1 c3) 1 (lk op n 0)) := fun o => by
      have h1 : LRow w3 109 3 (.slice A3 1 c3) 1 (lk op n 0) := A1'.out
      exact h1.of_block (fun g hg => Below.heap_alloc w3 _ g (h1.lt hg))
    have HR3 : Hid (Src (w3.alloc (.cells #[.string ⟨#[]⟩, .int .i64 0, .int .i64 k] 109)) 3 (some ⟨w3.heap.size, 0, none⟩) 1 (lk ⟨#[]⟩ 0 k)) := by
      refine ⟨rfl, fun _ => ⟨_, rfl, fun j u hu => ?_⟩⟩
      have hr : Row (w3.alloc (.cells #[.string ⟨#[]⟩, .int .i64 0, .int .i64 k] 109)) w3.heap.size 109 #[.string ⟨#[]⟩, .int .i64 0, .int .i64 k] := Row.new w3 109 _
      rw [addr_add0, Nat.zero_add, hr.cell j]
      simpa [lk] using hu
    clear k0 k1 k2
    go_wp2_with fail
    rw [rounds_succ]
    go_wp2_with (at_builtin
                 refine wpList_append_loose (w3.alloc (.cells #[.string ⟨#[]⟩, .int .i64 0, .int .i64 k] 109)) (by rfl) (.tmp 11) (.tmp 17) 91 (by rfl) 109 i0 (.agg #[.string ⟨#[]⟩, .int .i64 0, .int .i64 0]) 3 32 Try.underlying91 hi0 hz0 hz1 hz2 (by rfl) (by omega) (.slice A3 1 c3) 1 (lk op n 0) (by rfl) (HC3.out _) (some ⟨w3.heap.size, 0, none⟩) 1 1 (lk ⟨#[]⟩ 0 k) (by rfl) HR3.out (by intro u hu; simp [lk] at hu; rcases hu with rfl | rfl | rfl <;> rfl) (by unfold maxLen; omega) (by omega) ?_
                 intro v5 w5 b1 b2 b3
                 obtain ⟨A5, c5, rfl, _, _, _, _, b4⟩ := b1.shape
                 obtain ⟨g5, rfl⟩ := b4 (by omega)
                 have B1' := Lib.hid b1
                 have B2' := Lib.hid b2
                 clear b1 b2 b3 b4)
    go_ret
    refine ⟨g5, c5, rfl, B1'.out, ?_⟩
    have K1 : Keep Nothing w w3 := (Keep.refl _ w).grown (undrew ((World.grownBy_alloc w.drew _ _).trans A2'.out)) (fun k hk => by simp [Value.ownBlock] at hk)
    refine K1.grown ((World.grownBy_alloc w3 _ _).trans B2'.out) (fun k hk hl => ?_)
    rcases A3'.out k hk with h | h
    · simp [Value.ownBlock] at h
    · simp at h; omega
end Go.Proofs.Ytlbdfhbkemikgaa

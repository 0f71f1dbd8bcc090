/- The document's errors held against the program's. -/
import Derived.Test.YtlbdfhbkemikgaaRefE
set_option linter.unusedVariables false
set_option linter.unusedSimpArgs false
namespace Go.Proofs.Ytlbdfhbkemikgaa
open Go.RowKit Plain

theorem lk_cells {w : World} {g c : Nat} {op : ByteArray} {n k : Int} (h : LK w (.slice (some ⟨g, 0, none⟩) 2 c) op n k) :
    w.cell? ⟨g, 0, none⟩ = some (.string op) ∧ w.cell? ⟨g, 1, none⟩ = some (.int .i64 n) ∧ w.cell? ⟨g, 2, none⟩ = some (.int .i64 0) ∧
    w.cell? ⟨g, 3, none⟩ = some (.string ⟨#[]⟩) ∧ w.cell? ⟨g, 4, none⟩ = some (.int .i64 0) ∧ w.cell? ⟨g, 5, none⟩ = some (.int .i64 k) :=
  ⟨h.cell rfl, h.cell rfl, h.cell rfl, h.cell rfl, h.cell rfl, h.cell rfl⟩

theorem same_nil (w : World) : Calls Try.prog 38 #[.slice none 0 0, .slice none 0 0] w (RetB w) := by
  go_enter Try.func38, Try.ntmps38
  go_wp2_with fail
  refine wp_loop_rounds 1 ?_
  rw [rounds_succ]
  go_wp2_with fail
  go_ret
  exact ⟨rfl, Keep.refl _ _⟩

set_option maxHeartbeats 1000000 in
set_option maxRecDepth 100000 in
theorem same_lk (w : World) (g c g' c' : Nat) (op : ByteArray) (n k : Int) (h : LK w (.slice (some ⟨g, 0, none⟩) 2 c) op n k) (h' : LK w (.slice (some ⟨g', 0, none⟩) 2 c') op n k) :
    Calls Try.prog 38 #[.slice (some ⟨g, 0, none⟩) 2 c, .slice (some ⟨g', 0, none⟩) 2 c'] w (RetB w) := by
  obtain ⟨a0, a1, a2, a3, a4, a5⟩ := lk_cells h
  obtain ⟨b0, b1, b2, b3, b4, b5⟩ := lk_cells h'
  clear h h'
  go_enter Try.func38, Try.ntmps38
  go_wp2_with fail
  refine wp_loop_rounds 3 ?_
  rw [rounds_succ]
  go_wp2_with fail
  go_quiet (fail)
  go_wp2_with fail
  obtain ⟨W, hW⟩ : ∃ W, w.drewN nq = W := ⟨_, rfl⟩
  have K1 : Hid (Keep Nothing w W) := by unfold Hid; rw [← hW]; exact (Keep.refl _ w).drewN nq
  have a3' : W.cell? ⟨g, 3, none⟩ = some (.string ⟨#[]⟩) := by rw [← hW]; exact a3
  have a4' : W.cell? ⟨g, 4, none⟩ = some (.int .i64 0) := by rw [← hW]; exact a4
  have a5' : W.cell? ⟨g, 5, none⟩ = some (.int .i64 k) := by rw [← hW]; exact a5
  have b3' : W.cell? ⟨g', 3, none⟩ = some (.string ⟨#[]⟩) := by rw [← hW]; exact b3
  have b4' : W.cell? ⟨g', 4, none⟩ = some (.int .i64 0) := by rw [← hW]; exact b4
  have b5' : W.cell? ⟨g', 5, none⟩ = some (.int .i64 k) := by rw [← hW]; exact b5
  rw [hW]
  clear hW a0 a1 a2 a3 a4 a5 b0 b1 b2 b3 b4 b5 nq
  rw [rounds_succ]
  go_wp2_with fail
  go_quiet (fail)
  go_wp2_with fail
  rw [rounds_succ]
  go_wp2_with fail
  go_ret
  exact ⟨rfl, K1.out.drewN _⟩

/-- both tell no error. -/
theorem ref_nil (w : World) : Calls Try.prog 21 #[.nilIface, .pointer none] w (RetB w) := by
  have c1 := Lib.hid (fun w => links_nil w)
  have c2 := Lib.hid (fun w => rlinks_nil w)
  have c3 := Lib.hid (fun w => same_nil w)
  go_enter Try.func21, Try.ntmps21
  go_wp2_with fail
  refine (c1.out _).mono ?_
  rintro e w' ⟨rfl, rfl⟩
  go_wp2_with fail
  refine (c2.out _).mono ?_
  rintro e w' ⟨rfl, rfl⟩
  go_wp2_with fail
  refine (c3.out _).mono ?_
  rintro e w' ⟨rfl, hk⟩
  have K := Lib.hid hk
  clear hk
  go_wp2_with fail
  go_ret
  exact ⟨rfl, K.out⟩

set_option maxHeartbeats 1000000 in
/-- both tell one fault around one kind. -/
theorem ref_at (w : World) (g x : Nat) (op : ByteArray) (n k : Int) (h : Row w g 99 #[.string op, .int .i64 n, .iface 67 (.int .i64 k)]) (hk : k ≠ 0) (hx : XRow w x op n k) :
    Calls Try.prog 21 #[.iface 97 (.pointer (some ⟨g, 0, none⟩)), .pointer (some ⟨x, 0, none⟩)] w (RetB w) := by
  have c1 := Lib.hid (links_at w g op n k h hk)
  have HX := Lib.hid hx
  clear h hx hk
  go_enter Try.func21, Try.ntmps21
  go_wp2_with fail
  refine c1.out.mono ?_
  rintro e w1 ⟨g1, d1, rfl, hl1, hk1⟩
  have c2 := Lib.hid (rlinks_at w1 x op n k (HX.out.keep hk1))
  have L1 := Lib.hid hl1
  have K1 := Lib.hid hk1
  clear hl1 hk1 c1 HX
  go_wp2_with fail
  refine c2.out.mono ?_
  rintro e w2 ⟨g2, d2, rfl, hl2, hk2⟩
  have c3 := Lib.hid (same_lk w2 g1 d1 g2 d2 op n k (L1.out.keep hk2) hl2)
  have K2 := Lib.hid (K1.out.trans hk2 (fun _ _ h => h))
  clear hl2 hk2 c2 L1 K1
  go_wp2_with fail
  refine c3.out.mono ?_
  rintro e w3 ⟨rfl, hk3⟩
  have K := Lib.hid (K2.out.trans hk3 (fun _ _ h => h))
  clear hk3 c3
  go_wp2_with fail
  go_ret
  exact ⟨rfl, K.out⟩
end Go.Proofs.Ytlbdfhbkemikgaa

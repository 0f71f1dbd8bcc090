/- The document's wheel: Cancel of none, Start, ids. -/
import Derived.Test.YtlbdfhbkemikgaaRefC
set_option linter.unusedVariables false
set_option linter.unusedSimpArgs false
namespace Go.Proofs.Ytlbdfhbkemikgaa
open Go.RowKit Plain

set_option maxHeartbeats 1000000 in
set_option maxRecDepth 100000 in
theorem rcancel_none (w : World) (b : Nat) (v : Value) (M now next : Nat) (L : List Tm) (h : RW w b v M now next L) (hL : L.length < 1000000000000) (k : Int) (hk0 : -9223372036854775808 ≤ k) (hk1 : k ≤ 9223372036854775807) (hn : ∀ t ∈ L, (t.id : Int) ≠ k) :
    Calls Try.prog 23 #[.pointer (some ⟨b, 0, none⟩), .int .i64 k] w (RetX w (fun e => .tuple #[.int .i64 0, e]) "cancel".toUTF8 (k % 2147483648) 3) := by
  have con := Lib.hid (get_none w b v M now next L h hL k hk0 hk1 hn "cancel".toUTF8)
  clear h hn
  generalize hq : k % 2147483648 = q at *
  go_enter Try.func23, Try.ntmps23
  go_wp2_with fail
  refine con.out.mono ?_
  rintro e w1 ⟨g, rfl, hx, hk⟩
  have HX := Lib.hid hx
  have K := Lib.hid hk
  clear hx hk con
  go_wp2_with fail
  go_ret2
  exact ⟨g, rfl, HX.out.keep ((Keep.refl _ _).alloc _), K.out.alloc _⟩

set_option maxHeartbeats 1000000 in
set_option maxRecDepth 100000 in
theorem rstart_bad (w : World) (b : Nat) (n what : Int) (hn : n < 0 ∨ n > 1073741824) (hn0 : -9223372036854775808 ≤ n) (hn1 : n ≤ 9223372036854775807) :
    Calls Try.prog 22 #[.pointer (some ⟨b, 0, none⟩), .int .i64 n, .int .i64 what] w (RetX w (fun e => .tuple #[.int .i64 (-1), e]) "start".toUTF8 n 1) := by
  have con1 := Lib.hid (fun w => k_c 1 w)
  have con2 := Lib.hid (fun g w => f_c "start".toUTF8 n g w)
  by_cases c : n < 0
  · have d1 : decide (n < 0) = true := decide_eq_true c
    go_enter Try.func22, Try.ntmps22
    go_wp2_with fail
    refine (con1.out _).mono ?_
    rintro e w1 ⟨g, rfl, hg, hr, hk⟩
    have R1 := Lib.hid hr
    have K1 := Lib.hid hk
    clear hr hk hg
    go_wp2_with fail
    refine (con2.out _ _).mono ?_
    rintro e w2 ⟨h, rfl, hr, hk⟩
    have R2 := Lib.hid hr
    have K2 := Lib.hid hk
    clear hr hk
    go_wp2_with fail
    go_ret2
    exact ⟨h, rfl, ⟨g, R2.out, R1.out.keep K2.out (fun h => h)⟩, K1.out.trans K2.out (fun _ _ h => h)⟩
  · have d1 : decide (n < 0) = false := decide_eq_false c
    have d2 : decide (n > 1073741824) = true := decide_eq_true (by omega)
    go_enter Try.func22, Try.ntmps22
    go_wp2_with fail
    refine (con1.out _).mono ?_
    rintro e w1 ⟨g, rfl, hg, hr, hk⟩
    have R1 := Lib.hid hr
    have K1 := Lib.hid hk
    clear hr hk hg
    go_wp2_with fail
    refine (con2.out _ _).mono ?_
    rintro e w2 ⟨h, rfl, hr, hk⟩
    have R2 := Lib.hid hr
    have K2 := Lib.hid hk
    clear hr hk
    go_wp2_with fail
    go_ret2
    exact ⟨h, rfl, ⟨g, R2.out, R1.out.keep K2.out (fun h => h)⟩, K1.out.trans K2.out (fun _ _ h => h)⟩

set_option maxHeartbeats 1000000 in
set_option maxRecDepth 100000 in
theorem rstart_full (w : World) (b : Nat) (v : Value) (M now next : Nat) (L : List Tm) (h : RW w b v M now next L) (hL : L.length < 1000000000000) (hf : M ≤ L.length) (n what : Int) (hn0 : 0 ≤ n) (hn1 : n ≤ 1073741824) :
    Calls Try.prog 22 #[.pointer (some ⟨b, 0, none⟩), .int .i64 n, .int .i64 what] w (RetX w (fun e => .tuple #[.int .i64 (-1), e]) "start".toUTF8 n 2) := by
  have con1 := Lib.hid (fun w => k_c 2 w)
  have con2 := Lib.hid (fun g w => f_c "start".toUTF8 n g w)
  obtain ⟨A, c, rfl, _⟩ := h.ts.shape
  have d1 : decide (n < 0) = false := decide_eq_false (by omega)
  have d2 : decide (n > 1073741824) = false := decide_eq_false (by omega)
  have k0 : w.cell? ⟨b, 0, none⟩ = some (.int .i64 M) := h.row.cell 0
  have k3 : w.cell? ⟨b, 3, none⟩ = some (.slice A L.length c) := h.row.cell 3
  have d3 : decide ((L.length : Int) ≥ M) = true := decide_eq_true (by omega)
  clear h
  go_enter Try.func22, Try.ntmps22
  go_wp2_with fail
  go_quiet (fail)
  go_wp2_with fail
  refine (con1.out _).mono ?_
  rintro e w1 ⟨g, rfl, hg, hr, hk⟩
  have R1 := Lib.hid hr
  have K1 := Lib.hid (((Keep.refl Nothing w).drewN nq).trans hk (fun _ _ h => h))
  clear hr hk hg
  go_wp2_with fail
  refine (con2.out _ _).mono ?_
  rintro e w2 ⟨h, rfl, hr, hk⟩
  have R2 := Lib.hid hr
  have K2 := Lib.hid hk
  clear hr hk
  go_wp2_with fail
  go_ret2
  exact ⟨h, rfl, ⟨g, R2.out, R1.out.keep K2.out (fun h => h)⟩, K1.out.trans K2.out (fun _ _ h => h)⟩

set_option maxHeartbeats 1000000 in
set_option maxRecDepth 100000 in
theorem rstart_ok (w : World) (b : Nat) (v : Value) (M now next : Nat) (L : List Tm) (h : RW w b v M now next L) (hL : L.length < 1000000000) (hf : L.length < M) (n : Nat) (what : Int) (hn1 : n ≤ 1073741824) (hn : now < 1000000000000) (hx : next < 1000000000000) (hM : M < 1000000000000) :
    Calls Try.prog 22 #[.pointer (some ⟨b, 0, none⟩), .int .i64 (n : Int), .int .i64 what] w (RetR w b v (.tuple #[.int .i64 (next : Int), .pointer none]) M now (next + 1) (L ++ [⟨next, now + n, what⟩])) := by
  obtain ⟨i0, hi0, hz0, hz1, hz2⟩ := info_parts Try.tInfo
  obtain ⟨A, c, rfl, _⟩ := h.ts.shape
  have d1 : decide ((n : Int) < 0) = false := decide_eq_false (by omega)
  have d2 : decide ((n : Int) > 1073741824) = false := decide_eq_false (by omega)
  have k0 : w.cell? ⟨b, 0, none⟩ = some (.int .i64 M) := h.row.cell 0
  have k1 : w.cell? ⟨b, 1, none⟩ = some (.int .i64 now) := h.row.cell 1
  have k2 : w.cell? ⟨b, 2, none⟩ = some (.int .i64 next) := h.row.cell 2
  have k3 : w.cell? ⟨b, 3, none⟩ = some (.slice A L.length c) := h.row.cell 3
  have d3 : decide ((L.length : Int) ≥ M) = false := decide_eq_false (by omega)
  have H := Lib.hid h
  clear h
  go_enter Try.func22, Try.ntmps22
  go_wp2_with fail
  go_quiet (fail)
  go_wp2_with fail
  obtain ⟨W, hW⟩ : ∃ W, w.drewN nq = W := ⟨_, rfl⟩
  have H1 : Hid (RW W b (.slice A L.length c) M now next L) := by unfold Hid; rw [← hW]; exact H.out.same (fun _ _ => rfl)
  have K1 : Hid (Keep Nothing w W) := by unfold Hid; rw [← hW]; exact (Keep.refl _ w).drewN nq
  rw [hW]
  have k1' : W.cell? ⟨b, 1, none⟩ = some (.int .i64 now) := H1.out.row.cell 1
  have k2' : W.cell? ⟨b, 2, none⟩ = some (.int .i64 next) := H1.out.row.cell 2
  have k3' : W.cell? ⟨b, 3, none⟩ = some (.slice A L.length c) := H1.out.row.cell 3
  have blt := H1.out.row.lt
  have wr : IntKind.i64.wrap ((now : Int) + n) = (now : Int) + n := wrap64 (by omega) (by omega)
  have HC : Hid (∀ o, LRow (W.drew.alloc o) 57 3 (.slice A L.length c) L.length (tcs L)) := fun o => H1.out.ts.of_block (fun g hg => Below.heap_alloc W _ g (H1.out.ts.lt hg))
  have HR : Hid (Src (W.drew.alloc (.cells #[.int .i64 (next : Int), .int .i64 ((now : Int) + n), .int .i64 what] 57)) 3 (some ⟨W.heap.size, 0, none⟩) 1 (tcs [⟨next, now + n, what⟩])) := by
    refine ⟨rfl, fun _ => ⟨_, rfl, fun j u hu => ?_⟩⟩
    have hr : Row (W.drew.alloc (.cells #[.int .i64 (next : Int), .int .i64 ((now : Int) + n), .int .i64 what] 57)) W.heap.size 57 #[.int .i64 (next : Int), .int .i64 ((now : Int) + n), .int .i64 what] := Row.new W.drew 57 _
    rw [addr_add0, Nat.zero_add, hr.cell j]
    simpa [tcs, tc] using hu
  have bA : Hid (A.map (·.block) ≠ some b) := fun e => by
    cases A with
    | none => simp at e
    | some ad => exact H1.out.ne (g := ad.block) rfl (by simpa using e)
  clear k0 k1 k2 k3 hW H
  go_region_law
    ((refine step_append_loose (W.drew.alloc (.cells #[.int .i64 (next : Int), .int .i64 ((now : Int) + n), .int .i64 what] 57)) (by rfl) (.tmp 34) (.tmp 47) 60 (by rfl) 57 i0 (.agg #[.int .i64 0, .int .i64 0, .int .i64 0]) 3 24 Try.underlying60 hi0 hz0 hz1 hz2 (by rfl) (by omega) (.slice A L.length c) L.length (tcs L) (by rfl) (HC.out _) (some ⟨W.heap.size, 0, none⟩) 1 1 (tcs [⟨next, now + n, what⟩]) (by rfl) HR.out (tcs_one _) (by unfold maxLen; omega) (by omega) ?_
      intro v3 w3 a1 a2 a3
      obtain ⟨A3, c3, rfl, _⟩ := a1.shape
      have hrow : Row w3 b 62 #[.int .i64 (M : Int), .int .i64 (now : Int), .int .i64 (next : Int), .slice A L.length c] := (a2.block b (by simp; omega) (by cases A <;> simp [Value.ownBlock] at bA ⊢; exact fun e => bA.out (by simp [e]))).trans ((Below.heap_alloc W _ b blt).trans H1.out.row)
      have k4 : w3.cell? ⟨b, 3, none⟩ = some (.slice A L.length c) := hrow.cell 3
      have f4 : w3.frozen? ⟨b, 3, none⟩ = false := hrow.free 3
      have A1' := Lib.hid a1
      have A2' := Lib.hid a2
      have A3' := Lib.hid a3
      clear a1 a2 a3))
  all_goals
    have fin := H1.out.put (L' := L ++ [⟨next, now + n, what⟩]) (w' := w3) (v' := .slice A3 (L.length + 1) c3) (by
      unfold LT
      rw [tcs_append, show (L ++ [(⟨next, now + n, what⟩ : Tm)]).length = L.length + 1 by simp]
      exact A1'.out) (undrew ((World.grownBy_alloc W.drew _ _).trans A2'.out)) (fun g' hg' => (A3'.out g' hg').imp (fun h => h) (fun h => by rw [h]; simp))
    have n2 := fin.1.row.cell 2
    have f2 := fin.1.row.free 2
    have FIN := Lib.hid fin
    clear fin k1' k2' k3' k4 f4
    have n3 : (w3.setCell ⟨b, 3, none⟩ (.slice A3 (L.length + 1) c3)).cell? ⟨b, 2, none⟩ = some (.int .i64 (next : Int)) := n2
    clear n2
    go_wp2_with fail
    go_ret2
    obtain ⟨f1, f3, f5⟩ := FIN.out
    refine ⟨?_, _, ⟨?_, f1.ts.of_block (fun g hg => Below.heap_setCell _ _ _ g (f1.ne hg))⟩, (K1.out.mono (fun _ _ h => h.elim)).trans (f3.setCell (fun _ => .inl rfl) _) (fun _ _ h => h), fun g' hg' => (f5 g' hg').imp (fun h => h) (fun h => Nat.le_trans K1.out.size h)⟩
    · simp
    · have := f1.row.put 2 (.int .i64 ((next : Int) + 1))
      simpa using this
end Go.Proofs.Ytlbdfhbkemikgaa

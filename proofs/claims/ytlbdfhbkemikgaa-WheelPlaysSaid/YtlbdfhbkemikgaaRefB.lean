/- The document's wheel: Get, Cancel, Start. -/
import Derived.Test.YtlbdfhbkemikgaaRefA
import Derived.Deep.RegionHeld3
set_option linter.unusedVariables false
set_option linter.unusedSimpArgs false
namespace Go.Proofs.Ytlbdfhbkemikgaa
open Go.RowKit Plain

section
variable {w : World} {b : Nat} {v : Value} {M now next : Nat} {L : List Tm}

theorem find_some (h : RW w b v M now next L) (hL : L.length < 1000000000000) (hi : (ids L).Pairwise (· < ·)) {j : Nat} {t : Tm} (ht : L[j]? = some t) :
    Calls Try.prog 40 #[.pointer (some ⟨b, 0, none⟩), .int .i64 (t.id : Int)] w fun e w' => e = .returned (.int .i64 (j : Int)) ∧ w' = w := by
  have hj := (List.getElem?_eq_some_iff.1 ht).1
  have hp : L.Pairwise (fun s t => s.id < t.id) := List.pairwise_map.1 hi
  have := find_c w b v M now next L h hL (t.id : Int) j (by omega) (fun i s his hs => by
    obtain ⟨h1, rfl⟩ := List.getElem?_eq_some_iff.1 hs
    obtain ⟨h2, rfl⟩ := List.getElem?_eq_some_iff.1 ht
    have := List.pairwise_iff_getElem.1 hp i j h1 h2 his
    omega) (fun _ => ⟨t, ht, rfl⟩)
  rw [if_pos hj] at this
  exact this

theorem find_none (h : RW w b v M now next L) (hL : L.length < 1000000000000) (k : Int) (hn : ∀ t ∈ L, (t.id : Int) ≠ k) :
    Calls Try.prog 40 #[.pointer (some ⟨b, 0, none⟩), .int .i64 k] w fun e w' => e = .returned (.int .i64 (-1)) ∧ w' = w := by
  have := find_c w b v M now next L h hL k L.length (by omega) (fun i s his hs => hn s (List.mem_of_getElem? hs)) (fun h => by omega)
  rw [if_neg (by omega)] at this
  exact this
end

theorem RW.alloc {w : World} {b : Nat} {v : Value} {M now next : Nat} {L : List Tm} (h : RW w b v M now next L) (o : Obj) : RW (w.alloc o) b v M now next L := h.same (fun k hk => Below.heap_alloc w o k (h.foot_lt hk))

/-- a timer's cells. -/
def agT (t : Tm) : Value := .agg #[.int .i64 (t.id : Int), .int .i64 (t.at_ : Int), .int .i64 t.what]

set_option maxHeartbeats 1000000 in
set_option maxRecDepth 100000 in
theorem get_some (w : World) (b : Nat) (v : Value) (M now next : Nat) (L : List Tm) (h : RW w b v M now next L) (hL : L.length < 1000000000000) (hi : (ids L).Pairwise (· < ·)) (j : Nat) (t : Tm) (ht : L[j]? = some t) (op : ByteArray) :
    Calls Try.prog 24 #[.pointer (some ⟨b, 0, none⟩), .string op, .int .i64 (t.id : Int)] w (RetT w (.tuple #[.agg #[.int .i64 (t.id : Int), .int .i64 (t.at_ : Int), .int .i64 t.what], .pointer none])) := by
  have hj := (List.getElem?_eq_some_iff.1 ht).1
  have con := Lib.hid (find_some (h.alloc (.cells #[.int .i64 0, .int .i64 0, .int .i64 0] 57)) hL hi ht)
  obtain ⟨A, c, rfl, hc1, hc2, _, _, hp⟩ := h.ts.shape
  obtain ⟨g, rfl⟩ := hp (by omega)
  have k3 : w.cell? ⟨b, 3, none⟩ = some (.slice (some ⟨g, 0, none⟩) L.length c) := h.row.cell 3
  have hc0 : w.cell? ⟨g, j * 3, none⟩ = some (.int .i64 (t.id : Int)) := h.ts.cell (tcs_get ht).1
  have hcA : w.cell? ⟨g, j * 3 + 1, none⟩ = some (.int .i64 (t.at_ : Int)) := h.ts.cell (tcs_get ht).2.1
  have hcB : w.cell? ⟨g, j * 3 + 2, none⟩ = some (.int .i64 t.what) := h.ts.cell (tcs_get ht).2.2
  have glt : g < w.heap.size := h.ts.lt rfl
  have blt := h.row.lt
  clear h ht hi hp
  go_enter Try.func24, Try.ntmps24
  go_wp2_with fail
  refine con.out.mono ?_
  rintro e w' ⟨rfl, rfl⟩
  go_wp2_with fail
  refine bodyPost_ret (v := .tuple #[.agg #[.int .i64 (t.id : Int), .int .i64 (t.at_ : Int), .int .i64 t.what], .pointer none]) (by simp [results, Try.results24, go_sem]) rfl ?_
  exact ⟨rfl, (Keep.refl _ _).alloc _⟩

set_option maxHeartbeats 1000000 in
set_option maxRecDepth 100000 in
theorem get_none (w : World) (b : Nat) (v : Value) (M now next : Nat) (L : List Tm) (h : RW w b v M now next L) (hL : L.length < 1000000000000) (k : Int) (hk0 : -9223372036854775808 ≤ k) (hk1 : k ≤ 9223372036854775807) (hn : ∀ t ∈ L, (t.id : Int) ≠ k) (op : ByteArray) :
    Calls Try.prog 24 #[.pointer (some ⟨b, 0, none⟩), .string op, .int .i64 k] w (RetX w (fun e => .tuple #[.agg #[.int .i64 0, .int .i64 0, .int .i64 0], e]) op (k % 2147483648) 3) := by
  have con := Lib.hid (find_none (h.alloc (.cells #[.int .i64 0, .int .i64 0, .int .i64 0] 57)) hL k hn)
  have con0 := Lib.hid (fun w => low_c k w hk0 hk1)
  have con1 := Lib.hid (fun w => k_c 3 w)
  have con2 := Lib.hid (fun n g w => f_c op n g w)
  clear h hn
  go_enter Try.func24, Try.ntmps24
  go_wp2_with fail
  refine con.out.mono ?_
  rintro e w' ⟨rfl, rfl⟩
  go_wp2_with fail
  refine (con0.out _).mono ?_
  rintro e w' ⟨rfl, rfl⟩
  go_wp2_with fail
  refine (con1.out _).mono ?_
  rintro e w1 ⟨g, rfl, hg, hr, hk⟩
  have R1 := Lib.hid hr
  have K1 := Lib.hid hk
  have Z1 := Lib.hid ((Row.new w 57 #[.int .i64 0, .int .i64 0, .int .i64 0]).keep hk (fun h => h))
  clear hr hk hg
  go_wp2_with fail
  refine (con2.out _ _ _).mono ?_
  rintro e w2 ⟨x, rfl, hr, hk⟩
  have R2 := Lib.hid hr
  have K2 := Lib.hid hk
  have Z2 := Z1.out.keep hk (fun h => h)
  have c0 : w2.cell? ⟨w.heap.size, 0, none⟩ = some (.int .i64 0) := Z2.cell 0
  have c1 : w2.cell? ⟨w.heap.size, 1, none⟩ = some (.int .i64 0) := Z2.cell 1
  have c2 : w2.cell? ⟨w.heap.size, 2, none⟩ = some (.int .i64 0) := Z2.cell 2
  have cf := Z2.free
  have ZZ := Lib.hid Z2
  clear hr hk Z2 Z1
  go_wp2_with fail
  refine bodyPost_ret (v := .tuple #[.agg #[.int .i64 0, .int .i64 0, .int .i64 0], .pointer (some ⟨x, 0, none⟩)]) (by simp [results, Try.results24, go_sem, c0, c1, c2]) rfl ?_
  have n1 : x ≠ w.heap.size := fun e => by
    have h1 := R2.out
    have h2 := ZZ.out
    subst e
    unfold Row at h1 h2
    rw [h1] at h2
    simp at h2
  have n2 : g ≠ w.heap.size := fun e => by
    have h1 := R1.out.keep K2.out (fun h => h)
    have h2 := ZZ.out
    subst e
    unfold Row at h1 h2
    rw [h1] at h2
    simp at h2
  have KK := ((((Keep.refl Nothing w).alloc (.cells #[.int .i64 0, .int .i64 0, .int .i64 0] 57)).trans K1.out (fun _ _ h => h)).trans K2.out (fun _ _ h => h))
  exact ⟨x, rfl, ⟨g, ((R2.out.far n1 _).far n1 _).far n1 _, (((R1.out.keep K2.out (fun h => h)).far n2 _).far n2 _).far n2 _⟩, ((KK.setCell (by simp) _).setCell (by simp) _).setCell (by simp) _⟩
end Go.Proofs.Ytlbdfhbkemikgaa

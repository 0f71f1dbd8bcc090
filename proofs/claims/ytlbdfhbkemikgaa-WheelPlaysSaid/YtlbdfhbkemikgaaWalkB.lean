/- Walks of timer, Left, What, Cancel, Start. -/
import Derived.Test.YtlbdfhbkemikgaaWalkA
import Derived.Deep.QuietTactic
import Derived.BigQuiet
set_option linter.unusedVariables false
set_option linter.unusedSimpArgs false
namespace Go.Proofs.Ytlbdfhbkemikgaa
open Go.RowKit Plain

theorem wrap64 {n : Int} (h0 : -9223372036854775808 ≤ n) (h1 : n ≤ 9223372036854775807) : IntKind.i64.wrap n = n := by
  simp [IntKind.wrap, IntKind.bits, IntKind.signed]
  omega

theorem Keep.drewN {F : Nat → Prop} {w w1 : World} (h : Keep F w w1) (n : Nat) : Keep F w (w1.drewN n) := ⟨h.os, h.tape, h.output, h.size, h.block⟩
theorem Wh.drewN {w : World} {p m : Nat} {V : Nat → Value} {S : WS} (h : Wh w p m V S) (n : Nat) : Wh (w.drewN n) p m V S := h.same (fun k hk => rfl)

def Nothing : Nat → Prop := fun _ => False
theorem zero82 (w : World) : (zeroValue 82).run Try.prog w = .ok (.agg #[.int .i64 0, .int .i64 0]) w := by
  have h : Try.t82.zero = some (.agg #[.int .i64 0, .int .i64 0]) := by kernel_rfl
  simp [zeroValue, go_sem, h]

/-- what is told of a timer that is there. -/
def RetT (w : World) (x : Value) (e : Ending) (w' : World) : Prop := e = .returned x ∧ Keep Nothing w w'
/-- an error of a kind. -/
def RetE (w : World) (x : Value → Value) (op : ByteArray) (n k : Int) (e : Ending) (w' : World) : Prop :=
  ∃ g, e = .returned (x (.iface 97 (.pointer (some ⟨g, 0, none⟩)))) ∧ w.heap.size ≤ g ∧ Row w' g 99 #[.string op, .int .i64 n, .iface 67 (.int .i64 k)] ∧ Keep Nothing w w'

set_option maxHeartbeats 1000000 in
set_option maxRecDepth 100000 in
theorem timer_some (w : World) (p m : Nat) (V : Nat → Value) (S : WS) (h : Wh w p m V S) (ok : Ok S) (op : ByteArray) (t : Tm) (ht : t ∈ S.live) :
    Calls Try.prog 34 #[.pointer (some ⟨p, 0, none⟩), .string op, iv t.id] w (RetT w (.tuple #[.agg #[.int .i64 (t.at_ : Int), .int .i64 t.what], .nilIface])) := by
  have k1 : w.cell? ⟨p, 1028, none⟩ = some (.map (some m)) := by rw [h.row.cell (by omega), h.map]
  have plt := h.row.lt
  have hr := Lib.hid ok.ranged
  have hm := Lib.hid (ents_mem ht)
  have hu := Lib.hid (ok.uniq ht)
  have mp := Lib.hid (h.mp.of_block (w' := w.alloc (.cells #[.int .i64 0, .int .i64 0] 82)) (Below.heap_alloc w _ m h.mp.lt))
  clear h ok ht
  unfold iv
  go_enter Try.func34, Try.ntmps34
  go_wp2_with (at_lookup; refine wp_look_some rfl _ _ rfl rfl mp.out hr.out _ rfl _ hm.out hu.out ?_)
  refine bodyPost_ret (v := .tuple #[.agg #[.int .i64 (t.at_ : Int), .int .i64 t.what], .nilIface]) (by simp [results, Try.results34, go_sem]) rfl ?_
  exact ⟨rfl, ((Keep.refl _ _).alloc _).alloc _⟩

set_option maxHeartbeats 1000000 in
set_option maxRecDepth 100000 in
theorem timer_none (w : World) (p m : Nat) (V : Nat → Value) (S : WS) (h : Wh w p m V S) (ok : Ok S) (op : ByteArray) (k : Int) (hk0 : -9223372036854775808 ≤ k) (hk1 : k ≤ 9223372036854775807) (hn : ∀ t ∈ S.live, (t.id : Int) ≠ k) :
    Calls Try.prog 34 #[.pointer (some ⟨p, 0, none⟩), .string op, .int .i64 k] w (RetE w (fun e => .tuple #[.agg #[.int .i64 0, .int .i64 0], e]) op (bits .and .i64 k 2147483647) 3) := by
  have k1 : w.cell? ⟨p, 1028, none⟩ = some (.map (some m)) := by rw [h.row.cell (by omega), h.map]
  have plt := h.row.lt
  have hr := Lib.hid ok.ranged
  have hm : Hid (∀ x ∈ ents S.live, x.1 ≠ k) := by
    intro x hx
    obtain ⟨t, ht, rfl⟩ := List.mem_map.1 hx
    exact hn t ht
  have hw := wf_i64 hk0 hk1
  have mp := Lib.hid (h.mp.of_block (w' := w.alloc (.cells #[.int .i64 0, .int .i64 0] 82)) (Below.heap_alloc w _ m h.mp.lt))
  clear h ok hn
  generalize hq : bits .and .i64 k 2147483647 = q
  go_enter Try.func34, Try.ntmps34
  go_wp2_with (first
    | (at_lookup; refine wp_look_none rfl _ _ rfl rfl mp.out hr.out _ rfl hw hm.out _ (zero82 _) ?_)
    | (go_at_call 27
       refine (at_c op q 3 _).mono ?_
       rintro e w1 ⟨g, rfl, hg, hrow, hkeep⟩
       have hg2 : w.heap.size + 2 ≤ g := by simpa using hg
       have S1 : Row w1 w.heap.size 82 #[.int .i64 0, .int .i64 0] := ((Row.new w 82 #[.int .i64 0, .int .i64 0]).alloc _).keep hkeep (fun h => h)
       have c0 : w1.cell? ⟨w.heap.size, 0, none⟩ = some (.int .i64 0) := S1.cell 0
       have c1 : w1.cell? ⟨w.heap.size, 1, none⟩ = some (.int .i64 0) := S1.cell 1
       have cf := S1.free
       have K1 := Lib.hid (((((Keep.refl Nothing w).alloc _).alloc _).trans hkeep (fun _ _ h => h)))
       have R1 := Lib.hid hrow
       clear hkeep hrow hg S1))
  refine bodyPost_ret (v := .tuple #[.agg #[.int .i64 0, .int .i64 0], .iface 97 (.pointer (some ⟨g, 0, none⟩))]) (by simp [results, Try.results34, go_sem, c0, c1]) rfl ?_
  exact ⟨g, rfl, by omega, (R1.out.far (by simp; omega) _).far (by simp; omega) _, (K1.out.setCell (by simp) _).setCell (by simp) _⟩

def dropT (S : WS) (id : Nat) : WS := { S with live := S.live.filter (fun t => decide (t.id ≠ id)) }

theorem ents_filter (l : List Tm) (id : Nat) : (ents l).filter (fun x => decide (x.1 ≠ (id : Int))) = ents (l.filter (fun t => decide (t.id ≠ id))) := by
  unfold ents
  rw [List.filter_map]
  congr 1
  apply List.filter_congr
  intro t _
  show decide ((t.id : Int) ≠ (id : Int)) = decide (t.id ≠ id)
  exact decide_eq_decide.2 (by omega)

set_option maxHeartbeats 1000000 in
set_option maxRecDepth 100000 in
theorem left_some (w : World) (p m : Nat) (V : Nat → Value) (S : WS) (h : Wh w p m V S) (ok : Ok S) (t : Tm) (ht : t ∈ S.live) :
    Calls Try.prog 17 #[.pointer (some ⟨p, 0, none⟩), iv t.id] w (RetT w (.tuple #[.int .i64 ((t.at_ : Int) - S.now), .nilIface])) := by
  have con := Lib.hid (fun op => timer_some w p m V S h ok op t ht)
  have b0 := ok.at_ t ht
  have b1 := ok.now
  have wr : IntKind.i64.wrap ((t.at_ : Int) - S.now) = (t.at_ : Int) - S.now := wrap64 (by omega) (by omega)
  have plt := h.row.lt
  have H := Lib.hid h
  clear h ok ht
  unfold iv at *
  go_enter Try.func17, Try.ntmps17
  go_wp2_with (first
    | (go_at_call 34
       refine (con.out _).mono ?_
       rintro e w1 ⟨rfl, hkeep⟩
       have k1 : w1.cell? ⟨p, 1030, none⟩ = some (.int .i64 S.now) := by rw [hkeep.cell plt (fun h => h), H.out.row.cell (by omega), H.out.now]
       have plt1 := Nat.lt_of_lt_of_le plt hkeep.size
       have K1 := Lib.hid hkeep
       clear hkeep))
  go_quiet (fail)
  go_wp2
  go_ret2
  exact ⟨rfl, (K1.out.alloc _).drewN _⟩

set_option maxHeartbeats 1000000 in
set_option maxRecDepth 100000 in
theorem left_none (w : World) (p m : Nat) (V : Nat → Value) (S : WS) (h : Wh w p m V S) (ok : Ok S) (k : Int) (hk0 : -9223372036854775808 ≤ k) (hk1 : k ≤ 9223372036854775807) (hn : ∀ t ∈ S.live, (t.id : Int) ≠ k) :
    Calls Try.prog 17 #[.pointer (some ⟨p, 0, none⟩), .int .i64 k] w (RetE w (fun e => .tuple #[.int .i64 0, e]) "left".toUTF8 (bits .and .i64 k 2147483647) 3) := by
  have con := Lib.hid (timer_none w p m V S h ok "left".toUTF8 k hk0 hk1 hn)
  clear h ok hn
  generalize hq : bits .and .i64 k 2147483647 = q at con
  go_enter Try.func17, Try.ntmps17
  go_wp2_with (first
    | (go_at_call 34
       refine con.out.mono ?_
       rintro e w1 ⟨g, rfl, hg, hrow, hkeep⟩
       have K1 := Lib.hid hkeep
       have R1 := Lib.hid hrow
       clear hkeep hrow))
  go_ret2
  exact ⟨g, rfl, hg, R1.out.alloc _, K1.out.alloc _⟩

set_option maxHeartbeats 1000000 in
set_option maxRecDepth 100000 in
theorem what_some (w : World) (p m : Nat) (V : Nat → Value) (S : WS) (h : Wh w p m V S) (ok : Ok S) (t : Tm) (ht : t ∈ S.live) :
    Calls Try.prog 19 #[.pointer (some ⟨p, 0, none⟩), iv t.id] w (RetT w (.tuple #[.int .i64 t.what, .nilIface])) := by
  have con := Lib.hid (fun op => timer_some w p m V S h ok op t ht)
  clear h ok ht
  unfold iv at *
  go_enter Try.func19, Try.ntmps19
  go_wp2_with (first
    | (go_at_call 34
       refine (con.out _).mono ?_
       rintro e w1 ⟨rfl, hkeep⟩
       have K1 := Lib.hid hkeep
       clear hkeep))
  go_ret2
  exact ⟨rfl, (K1.out.alloc _)⟩

set_option maxHeartbeats 1000000 in
set_option maxRecDepth 100000 in
theorem what_none (w : World) (p m : Nat) (V : Nat → Value) (S : WS) (h : Wh w p m V S) (ok : Ok S) (k : Int) (hk0 : -9223372036854775808 ≤ k) (hk1 : k ≤ 9223372036854775807) (hn : ∀ t ∈ S.live, (t.id : Int) ≠ k) :
    Calls Try.prog 19 #[.pointer (some ⟨p, 0, none⟩), .int .i64 k] w (RetE w (fun e => .tuple #[.int .i64 0, e]) "what".toUTF8 (bits .and .i64 k 2147483647) 3) := by
  have con := Lib.hid (timer_none w p m V S h ok "what".toUTF8 k hk0 hk1 hn)
  clear h ok hn
  generalize hq : bits .and .i64 k 2147483647 = q at con
  go_enter Try.func19, Try.ntmps19
  go_wp2_with (first
    | (go_at_call 34
       refine con.out.mono ?_
       rintro e w1 ⟨g, rfl, hg, hrow, hkeep⟩
       have K1 := Lib.hid hkeep
       have R1 := Lib.hid hrow
       clear hkeep hrow))
  go_ret2
  exact ⟨g, rfl, hg, R1.out.alloc _, K1.out.alloc _⟩

set_option maxHeartbeats 1000000 in
set_option maxRecDepth 100000 in
theorem cancel_none (w : World) (p m : Nat) (V : Nat → Value) (S : WS) (h : Wh w p m V S) (ok : Ok S) (k : Int) (hk0 : -9223372036854775808 ≤ k) (hk1 : k ≤ 9223372036854775807) (hn : ∀ t ∈ S.live, (t.id : Int) ≠ k) :
    Calls Try.prog 18 #[.pointer (some ⟨p, 0, none⟩), .int .i64 k] w (RetE w (fun e => .tuple #[.int .i64 0, e]) "cancel".toUTF8 (bits .and .i64 k 2147483647) 3) := by
  have con := Lib.hid (timer_none w p m V S h ok "cancel".toUTF8 k hk0 hk1 hn)
  clear h ok hn
  generalize hq : bits .and .i64 k 2147483647 = q at con
  go_enter Try.func18, Try.ntmps18
  go_wp2_with (first
    | (go_at_call 34
       refine con.out.mono ?_
       rintro e w1 ⟨g, rfl, hg, hrow, hkeep⟩
       have K1 := Lib.hid hkeep
       have R1 := Lib.hid hrow
       clear hkeep hrow))
  go_ret2
  exact ⟨g, rfl, hg, R1.out.alloc _, K1.out.alloc _⟩

set_option maxHeartbeats 1000000 in
set_option maxRecDepth 100000 in
theorem cancel_some (w : World) (p m : Nat) (V : Nat → Value) (S : WS) (h : Wh w p m V S) (ok : Ok S) (t : Tm) (ht : t ∈ S.live) :
    Calls Try.prog 18 #[.pointer (some ⟨p, 0, none⟩), iv t.id] w (RetW w p m V (.tuple #[.int .i64 ((t.at_ : Int) - S.now), .nilIface]) (dropT S t.id)) := by
  have con := Lib.hid (fun op => timer_some w p m V S h ok op t ht)
  have b0 := ok.at_ t ht
  have b1 := ok.now
  have wr : IntKind.i64.wrap ((t.at_ : Int) - S.now) = (t.at_ : Int) - S.now := wrap64 (by omega) (by omega)
  have hr := Lib.hid ok.ranged
  have hp := Lib.hid (ents_keys ok.inc)
  have hw := Lib.hid (ok.ranged _ (ents_mem ht))
  have H := Lib.hid h
  clear h ok ht
  unfold iv at *
  go_enter Try.func18, Try.ntmps18
  go_wp2_with (first
    | (go_at_call 34
       refine (con.out _).mono ?_
       rintro e w1 ⟨rfl, hkeep⟩
       have H1 := Lib.hid ((H.out.keep hkeep (fun _ _ h => h)).alloc (.cells #[.int .i64 (t.at_ : Int), .int .i64 t.what] 82))
       have k0 : w1.cell? ⟨p, 1028, none⟩ = some (.map (some m)) := by have := (H.out.keep hkeep (fun _ _ h => h)); rw [this.row.cell (by omega), this.map]
       have plt1 : p < w1.heap.size := Nat.lt_of_lt_of_le H.out.row.lt hkeep.size
       have K1 := Lib.hid hkeep
       clear hkeep)
    | (at_delete
       refine wp_map_drop rfl _ _ rfl rfl H1.out.mp hr.out hp.out _ rfl hw.out ?_
       intro w2 hm2 hg2
       rw [ents_filter] at hm2
       have fin := H1.out.mapped hg2 hm2
       have k1 : w2.cell? ⟨p, 1030, none⟩ = some (.int .i64 S.now) := by rw [fin.1.row.cell (by omega), fin.1.now]
       have k2 : w2.cell? ⟨w1.heap.size, 0, none⟩ = some (.int .i64 (t.at_ : Int)) := ((Row.new w1 82 #[.int .i64 (t.at_ : Int), .int .i64 t.what]).grown hg2 (by have := H1.out.mp.lt; simp; have := H.out.mp.lt; have := K1.out.size; omega)).cell 0
       have FIN := Lib.hid fin
       clear fin hm2 hg2))
  go_quiet (fail)
  go_wp2
  go_ret2
  have T : Step p m w V w1 V := ⟨K1.out.mono (fun _ _ h => h.elim), fun k hk => .inl hk⟩
  have T2 : Step p m w1 V (w1.alloc (.cells #[.int .i64 (t.at_ : Int), .int .i64 t.what] 82)) V := ⟨(Keep.refl _ _).alloc _, fun k hk => .inl hk⟩
  have T3 := (T.trans T2).trans FIN.out.2
  exact ⟨rfl, V, FIN.out.1.drewN _, ⟨T3.keep.drewN _, T3.sub⟩⟩
end Go.Proofs.Ytlbdfhbkemikgaa

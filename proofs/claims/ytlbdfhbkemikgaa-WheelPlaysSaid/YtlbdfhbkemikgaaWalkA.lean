/- Walks of the small ones: Place, fault.At, Now, Len, empty. -/
import Derived.Test.YtlbdfhbkemikgaaPut
set_option linter.unusedVariables false
set_option linter.unusedSimpArgs false
namespace Go.Proofs.Ytlbdfhbkemikgaa
open Go.RowKit Plain

structure Ok (S : WS) : Prop where
  now : S.now < 1000000000000
  next : S.next < 1000000000000
  m0 : -1000000000000 < S.m0 ∧ S.m0 < 1000000000000
  m1 : -1000000000000 < S.m1 ∧ S.m1 < 1000000000000
  m2 : -1000000000000 < S.m2 ∧ S.m2 < 1000000000000
  len : ∀ j, j < 1024 → (S.slot j).length < 1000000000000
  due : S.due.length < 1000000000000
  inc : (ids S.live).Pairwise (· < ·)
  lt_ : ∀ t ∈ S.live, t.id < S.next
  at_ : ∀ t ∈ S.live, S.now ≤ t.at_ ∧ t.at_ < 1099511627776

theorem wf_i64 {a : Int} (h0 : -9223372036854775808 ≤ a) (h1 : a ≤ 9223372036854775807) : (Lit.int .i64 a).wf = true := by
  simp [Lit.wf, IntKind.wrap, IntKind.bits, IntKind.signed, IntKind.min, IntKind.max]
  omega

theorem Ok.ranged {S : WS} (ok : Ok S) : Ranged (ents S.live) := by
  intro x hx
  obtain ⟨t, ht, rfl⟩ := List.mem_map.1 hx
  have := ok.lt_ t ht
  have := ok.next
  exact wf_i64 (by show (-9223372036854775808 : Int) ≤ (t.id : Int); omega) (by show (t.id : Int) ≤ 9223372036854775807; omega)

theorem ids_inj : ∀ {l : List Tm}, (ids l).Pairwise (· < ·) → ∀ t ∈ l, ∀ u ∈ l, t.id = u.id → t = u
  | [], _, t, ht, _, _, _ => by simp at ht
  | x :: l, hp, t, ht, u, hu, e => by
    simp only [ids, List.map_cons, List.pairwise_cons] at hp
    have key : ∀ y ∈ l, x.id < y.id := fun y hy => hp.1 y.id (List.mem_map.2 ⟨y, hy, rfl⟩)
    rcases List.mem_cons.1 ht with e1 | h1
    · rcases List.mem_cons.1 hu with e2 | h2
      · rw [e1, e2]
      · have := key u h2; rw [← e1] at this; omega
    · rcases List.mem_cons.1 hu with e2 | h2
      · have := key t h1; rw [← e2] at this; omega
      · exact ids_inj hp.2 t h1 u h2 e

theorem Ok.uniq {S : WS} (ok : Ok S) {t : Tm} (ht : t ∈ S.live) : ∀ x ∈ ents S.live, x.1 = (t.id : Int) → x.2 = (ent t).2 := by
  intro x hx e
  obtain ⟨u, hu, rfl⟩ := List.mem_map.1 hx
  have e2 : (u.id : Int) = t.id := e
  rw [ids_inj ok.inc u hu t ht (by omega)]

theorem ents_mem {l : List Tm} {t : Tm} (h : t ∈ l) : ((t.id : Int), Value.agg #[.int .i64 (t.at_ : Int), .int .i64 t.what]) ∈ ents l := List.mem_map.2 ⟨t, h, rfl⟩

theorem ents_keys {l : List Tm} (h : (ids l).Pairwise (· < ·)) : ((ents l).map (·.1)).Pairwise (· < ·) := by
  have e : (ents l).map (·.1) = (ids l).map (fun i : Nat => (i : Int)) := by simp [ents, ids, ent, Function.comp_def]
  rw [e, List.pairwise_map]
  exact h.imp (fun h => by omega)

theorem put_c (w : World) (p m : Nat) (V : Nat → Value) (S : WS) (h : Wh w p m V S) (ok : Ok S) (id a : Nat) (ha : S.now ≤ a) (h2 : a < 1099511627776) :
    Calls Try.prog 33 #[.pointer (some ⟨p, 0, none⟩), iv id, iv a] w (RetW w p m V (.tuple #[]) (put S id a)) := by
  have hl : (S.slot (place S.now a)).length < 1099511627776 := Nat.lt_trans (ok.len _ (by unfold place; split; omega; split; omega; split <;> omega)) (by decide)
  have h0 := ok.m0; have h1 := ok.m1; have h3 := ok.m2
  by_cases c0 : a < S.now + 256
  · exact put_0 w p m V S h id a c0 ha h2 hl (by omega)
  by_cases c1 : a < S.now + 65536
  · exact put_1 w p m V S h id a c0 c1 ha h2 hl (by omega)
  by_cases c2 : a < S.now + 16777216
  · exact put_2 w p m V S h id a c1 c2 ha h2 hl (by omega)
  · exact put_3 w p m V S h id a c2 ha h2 hl

def RetAt (w : World) (op : ByteArray) (n : Int) (e0 : Value) (e : Ending) (w' : World) : Prop :=
  ∃ g, e = .returned (.iface 97 (.pointer (some ⟨g, 0, none⟩))) ∧ w.heap.size ≤ g ∧ Row w' g 99 #[.string op, .int .i64 n, e0] ∧ Keep (fun _ => False) w w'

theorem at_c (op : ByteArray) (n k : Int) (w : World) : Calls Try.prog 27 #[.string op, .int .i64 n, .iface 67 (.int .i64 k)] w (RetAt w op n (.iface 67 (.int .i64 k))) := by
  go_enter Try.func27, Try.ntmps27
  go_wp2_with fail
  go_ret
  exact ⟨_, rfl, Nat.le_refl _, Row.new _ _ _, (Keep.refl _ _).alloc _⟩

theorem now_c (w : World) (p m : Nat) (V : Nat → Value) (S : WS) (h : Wh w p m V S) : Calls Try.prog 15 #[.pointer (some ⟨p, 0, none⟩)] w fun e w' => e = .returned (.int .i64 (S.now : Int)) ∧ w' = w := by
  have k1 : w.cell? ⟨p, 1030, none⟩ = some (.int .i64 S.now) := by rw [h.row.cell (by omega), h.now]
  clear h
  go_enter Try.func15, Try.ntmps15
  go_wp2_with fail
  go_ret
  exact ⟨rfl, rfl⟩

theorem ents_len (l : List Tm) : (ents l).length = l.length := by simp [ents]

theorem len_c (w : World) (p m : Nat) (V : Nat → Value) (S : WS) (h : Wh w p m V S) : Calls Try.prog 16 #[.pointer (some ⟨p, 0, none⟩)] w fun e w' => e = .returned (.int .i64 (S.live.length : Int)) ∧ w' = w := by
  have k1 : w.cell? ⟨p, 1028, none⟩ = some (.map (some m)) := by rw [h.row.cell (by omega), h.map]
  have hm := h.mp
  rw [← ents_len]
  clear h
  go_enter Try.func16, Try.ntmps16
  go_wp2_with (at_len; refine wp_map_len rfl _ rfl rfl hm ?_)
  go_ret
  exact ⟨rfl, rfl⟩

theorem Try.intInfo : (Try.prog.info? 3).map (fun i => (i.zero, i.size, i.bytes)) = some (some (.int .i64 0), 1, 8) := by kernel_rfl

theorem index_three (a b c : Int) (w : World) (i : Nat) (hi : i < 3) :
    (Instr.index 76 (.agg #[.int .i64 a, .int .i64 b, .int .i64 c]) (.int .i64 (i : Int))).run Try.prog w = .ok (.int .i64 (match i with | 0 => a | 1 => b | _ => c)) w := by
  match i, hi with
  | 0, _ => simp [Instr.index, run_underlying Try.underlying76, asIntOf, part, go_sem]
  | 1, _ => simp [Instr.index, run_underlying Try.underlying76, asIntOf, part, go_sem]
  | 2, _ => simp [Instr.index, run_underlying Try.underlying76, asIntOf, part, go_sem]

def spanOf (S : WS) : Nat := if 0 < S.m0 then 1 else if 0 < S.m1 then 256 else if 0 < S.m2 then 65536 else 16777216

set_option maxHeartbeats 1000000 in
set_option maxRecDepth 100000 in
theorem empty_c (w : World) (p m : Nat) (V : Nat → Value) (S : WS) (h : Wh w p m V S) (hn : S.now < 1099511627776) :
    Calls Try.prog 31 #[.pointer (some ⟨p, 0, none⟩)] w fun e w' => e = .returned (.int .i64 ((spanOf S - S.now % spanOf S - 1 : Nat) : Int)) ∧ w' = w := by
  have k1 : w.cell? ⟨p, 1030, none⟩ = some (.int .i64 S.now) := by rw [h.row.cell (by omega), h.now]
  have k2 : w.cell? ⟨p, 1024, none⟩ = some (.int .i64 S.m0) := by rw [h.row.cell (by omega), h.c0]
  have k3 : w.cell? ⟨p, 1025, none⟩ = some (.int .i64 S.m1) := by rw [h.row.cell (by omega), h.c1]
  have k4 : w.cell? ⟨p, 1026, none⟩ = some (.int .i64 S.m2) := by rw [h.row.cell (by omega), h.c2]
  clear h
  have i0 : (Instr.index 76 (.agg #[.int .i64 S.m0, .int .i64 S.m1, .int .i64 S.m2]) (.int .i64 0)).run Try.prog w = .ok (.int .i64 S.m0) w := index_three _ _ _ _ 0 (by decide)
  have i1 : (Instr.index 76 (.agg #[.int .i64 S.m0, .int .i64 S.m1, .int .i64 S.m2]) (.int .i64 1)).run Try.prog w = .ok (.int .i64 S.m1) w := index_three _ _ _ _ 1 (by decide)
  have i2 : (Instr.index 76 (.agg #[.int .i64 S.m0, .int .i64 S.m1, .int .i64 S.m2]) (.int .i64 2)).run Try.prog w = .ok (.int .i64 S.m2) w := index_three _ _ _ _ 2 (by decide)
  unfold spanOf
  by_cases h0 : 0 < S.m0
  · rw [if_pos h0]
    go_enter Try.func31, Try.ntmps31
    go_wp2_with fail
    refine wp_loop_rounds 4 ?_
    repeat any_goals (rw [rounds_succ]; go_wp2)
    go_ret
    refine ⟨congrArg Ending.returned (congrArg (Value.int .i64) ?_), rfl⟩
    omega
  by_cases h1 : 0 < S.m1
  · rw [if_neg h0, if_pos h1]
    go_enter Try.func31, Try.ntmps31
    go_wp2_with fail
    refine wp_loop_rounds 4 ?_
    repeat any_goals (rw [rounds_succ]; go_wp2)
    go_ret
    refine ⟨congrArg Ending.returned (congrArg (Value.int .i64) ?_), rfl⟩
    omega
  by_cases h2 : 0 < S.m2
  · rw [if_neg h0, if_neg h1, if_pos h2]
    go_enter Try.func31, Try.ntmps31
    go_wp2_with fail
    refine wp_loop_rounds 4 ?_
    repeat any_goals (rw [rounds_succ]; go_wp2)
    go_ret
    refine ⟨congrArg Ending.returned (congrArg (Value.int .i64) ?_), rfl⟩
    omega
  · rw [if_neg h0, if_neg h1, if_neg h2]
    go_enter Try.func31, Try.ntmps31
    go_wp2_with fail
    refine wp_loop_rounds 4 ?_
    repeat any_goals (rw [rounds_succ]; go_wp2)
    go_ret
    refine ⟨congrArg Ending.returned (congrArg (Value.int .i64) ?_), rfl⟩
    omega
def placeI (v n : Int) : Int := if v.tmod n < 0 then v.tmod n + n else v.tmod n

theorem placeI_eq (v n : Int) (hn : 0 < n) : placeI v n = v % n := by
  unfold placeI
  have h1 := Int.emod_nonneg v (b := n) (by omega)
  have h2 := Int.emod_lt_of_pos v hn
  by_cases hv : 0 ≤ v
  · rw [Int.tmod_eq_emod_of_nonneg hv, if_neg (by omega)]
  · have h3 := Int.tmod_def v n
    have h4 : v.tmod n = v % n ∨ v.tmod n = v % n - n := by
      rw [Int.tmod_eq_emod]
      split
      · exact .inl (by omega)
      · exact .inr (by rw [show (n.natAbs : Int) = n by omega])
    have h5 : v.tmod n ≤ 0 := by
      have h6 : 0 ≤ (-v).tmod n := Int.tmod_nonneg n (by omega)
      rw [Int.neg_tmod] at h6
      omega
    rcases h4 with h | h
    · rw [h] at h5 ⊢
      have : v % n = 0 := by omega
      rw [this]; simp
    · rw [h, if_pos (by omega)]; omega

set_option maxHeartbeats 1000000 in
set_option maxRecDepth 100000 in
theorem place_any (v n : Int) (w : World) (hv0 : -9223372036854775808 ≤ v) (hv1 : v ≤ 9223372036854775807) (hn : 1 ≤ n) (hn1 : n ≤ 1000000000000) :
    Calls Try.prog 10 #[.int .i64 v, .int .i64 n] w fun e w' => e = .returned (.int .i64 (v % n)) ∧ w = w' := by
  have Hp := Lib.hid (placeI_eq v n (by omega))
  have b1 : -n < v.tmod n ∧ v.tmod n < n := by
    have := Int.lt_tmod_of_pos v (b := n) (by omega)
    have := Int.tmod_lt_of_pos v (b := n) (by omega)
    omega
  by_cases c : v.tmod n < 0
  · have Hv : Hid (placeI v n = v.tmod n + n) := by unfold Hid placeI; rw [if_pos c]
    go_enter Try.func10, Try.ntmps10
    go_wp2
    go_ret
    exact ⟨by rw [← Hp.out, Hv.out]; rfl, rfl⟩
  · have Hv : Hid (placeI v n = v.tmod n) := by unfold Hid placeI; rw [if_neg c]
    go_enter Try.func10, Try.ntmps10
    go_wp2
    go_ret
    exact ⟨by rw [← Hp.out, Hv.out]; rfl, rfl⟩


end Go.Proofs.Ytlbdfhbkemikgaa

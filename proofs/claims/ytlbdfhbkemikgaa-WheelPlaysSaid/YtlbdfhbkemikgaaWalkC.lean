/- Walks of New and Start. -/
import Derived.Test.YtlbdfhbkemikgaaWalkB
set_option linter.unusedVariables false
set_option linter.unusedSimpArgs false
namespace Go.Proofs.Ytlbdfhbkemikgaa
open Go.RowKit Plain

def startT (S : WS) (n : Nat) (what : Int) : WS := { S with next := S.next + 1, live := S.live ++ [⟨S.next, S.now + n, what⟩] }
def start0 (S : WS) (what : Int) : WS := { startT S 0 what with due := S.due ++ [S.next] }
def startN (S : WS) (n : Nat) (what : Int) : WS := put (startT S n what) S.next (S.now + n)

set_option maxHeartbeats 1000000 in
set_option maxRecDepth 100000 in
theorem start_bad (w : World) (p : Nat) (n what : Int) (hn : n < 0 ∨ n > 1073741824) (hn0 : -9223372036854775808 ≤ n) (hn1 : n ≤ 9223372036854775807) :
    Calls Try.prog 12 #[.pointer (some ⟨p, 0, none⟩), .int .i64 n, .int .i64 what] w (RetE w (fun e => .tuple #[.int .i64 (-1), e]) "start".toUTF8 n 1) := by
  have con := Lib.hid (fun w => at_c "start".toUTF8 n 1 w)
  by_cases c : n < 0
  · have d1 : decide (n < 0) = true := decide_eq_true c
    go_enter Try.func12, Try.ntmps12
    go_wp2_with (go_at_call 27; refine (con.out _).mono ?_; rintro e w1 ⟨g, rfl, hg, hrow, hkeep⟩)
    go_ret2
    exact ⟨g, rfl, hg, hrow, hkeep⟩
  · have d1 : decide (n < 0) = false := decide_eq_false c
    have d2 : n > 1073741824 := by omega
    go_enter Try.func12, Try.ntmps12
    go_wp2_with (go_at_call 27; refine (con.out _).mono ?_; rintro e w1 ⟨g, rfl, hg, hrow, hkeep⟩)
    go_ret2
    exact ⟨g, rfl, hg, hrow, hkeep⟩

set_option maxHeartbeats 1000000 in
set_option maxRecDepth 100000 in
theorem start_full (w : World) (p m : Nat) (V : Nat → Value) (S : WS) (h : Wh w p m V S) (n what : Int) (hn0 : 0 ≤ n) (hn1 : n ≤ 1073741824) (hf : S.most ≤ S.live.length) (hb : S.live.length < 1000000000000) :
    Calls Try.prog 12 #[.pointer (some ⟨p, 0, none⟩), .int .i64 n, .int .i64 what] w (RetE w (fun e => .tuple #[.int .i64 (-1), e]) "start".toUTF8 n 2) := by
  have con := Lib.hid (fun w => at_c "start".toUTF8 n 2 w)
  have k0 : w.cell? ⟨p, 1028, none⟩ = some (.map (some m)) := by rw [h.row.cell (by omega), h.map]
  have k1 : w.cell? ⟨p, 1029, none⟩ = some (.int .i64 S.most) := by rw [h.row.cell (by omega), h.most]
  have d1 : decide (n < 0) = false := decide_eq_false (by omega)
  have d2 : decide (n > 1073741824) = false := decide_eq_false (by omega)
  have d3 : (S.live.length : Int) ≥ S.most := by omega
  have mp : ∀ q ty, (Builtin.len_ #[68] ty #[.map (some m)]).run Try.prog (w.drewN q) = .ok (.int .i64 S.live.length) (w.drewN q) := fun q ty => by
    rw [← ents_len]; exact (h.drewN q).mp.len ty
  clear h
  generalize S.live.length = L at *
  go_enter Try.func12, Try.ntmps12
  go_wp2_with fail
  go_quiet (fail)
  go_wp2_with (go_at_call 27; refine (con.out _).mono ?_; rintro e w1 ⟨g, rfl, hg, hrow, hkeep⟩)
  go_ret2
  exact ⟨g, rfl, hg, hrow, (((Keep.refl Nothing w).drewN nq).trans hkeep (fun _ _ h => h))⟩

theorem ents_add (l : List Tm) (t : Tm) : ents (l ++ [t]) = ents l ++ [((t.id : Int), Value.agg #[.int .i64 (t.at_ : Int), .int .i64 t.what])] := by simp [ents, ent]

theorem startT_ok {S : WS} (ok : Ok S) (n : Nat) (what : Int) (hn : n ≤ 1073741824) (hx : S.next + 1 < 1000000000000) : Ok (startT S n what) := by
  refine ⟨ok.now, hx, ok.m0, ok.m1, ok.m2, ok.len, ok.due, ?_, ?_, ?_⟩
  · simp only [startT, ids, List.map_append, List.map_cons, List.map_nil, List.pairwise_append]
    refine ⟨ok.inc, by simp, fun a ha b hb => ?_⟩
    obtain ⟨t, ht, rfl⟩ := List.mem_map.1 ha
    have := ok.lt_ t ht
    simp at hb
    omega
  · intro t ht
    simp only [startT, List.mem_append, List.mem_singleton] at ht ⊢
    rcases ht with ht | rfl
    · have := ok.lt_ t ht; omega
    · show S.next < S.next + 1; omega
  · intro t ht
    simp only [startT, List.mem_append, List.mem_singleton] at ht ⊢
    rcases ht with ht | rfl
    · exact ok.at_ t ht
    · have := ok.now; show S.now ≤ S.now + n ∧ S.now + n < 1099511627776; omega

theorem Keep.drewL {F : Nat → Prop} {w w1 : World} (h : Keep F w.drew w1) : Keep F w w1 := ⟨h.os, h.tape, h.output, h.size, h.block⟩

set_option maxHeartbeats 1000000 in
set_option maxRecDepth 100000 in
theorem start_zero (w : World) (p m : Nat) (V : Nat → Value) (S : WS) (h : Wh w p m V S) (ok : Ok S) (what : Int) (hx : S.next + 1 < 1000000000000) (hf : S.live.length < S.most) (hb : S.most < 1000000000000) :
    Calls Try.prog 12 #[.pointer (some ⟨p, 0, none⟩), .int .i64 0, .int .i64 what] w (RetW w p m V (.tuple #[iv S.next, .nilIface]) (start0 S what)) := by
  have b1 := ok.now
  have b2 := ok.next
  have k0 : w.cell? ⟨p, 1028, none⟩ = some (.map (some m)) := by rw [h.row.cell (by omega), h.map]
  have k1 : w.cell? ⟨p, 1029, none⟩ = some (.int .i64 S.most) := by rw [h.row.cell (by omega), h.most]
  have d3 : ¬ (S.live.length : Int) ≥ S.most := by omega
  have mp : ∀ q ty, (Builtin.len_ #[68] ty #[.map (some m)]).run Try.prog (w.drewN q) = .ok (.int .i64 S.live.length) (w.drewN q) := fun q ty => by
    rw [← ents_len]; exact (h.drewN q).mp.len ty
  have wr : IntKind.i64.wrap (S.now : Int) = (S.now : Int) := wrap64 (by omega) (by omega)
  have hr := Lib.hid ok.ranged
  have hl : Hid (∀ x ∈ ents S.live, x.1 ≠ (S.next : Int)) := by
    intro x hx
    obtain ⟨t, ht, rfl⟩ := List.mem_map.1 hx
    have := ok.lt_ t ht
    show (t.id : Int) ≠ S.next
    omega
  have hw := wf_i64 (a := (S.next : Int)) (by omega) (by omega)
  have OK := Lib.hid ok
  have H := Lib.hid h
  clear h ok
  unfold iv
  have ec : ((S.now + 0 : Nat) : Int) = (S.now : Int) := by omega
  generalize hL : S.live.length = L at *
  go_enter Try.func12, Try.ntmps12
  go_wp2_with fail
  go_quiet (fail)
  have H0 := Lib.hid (H.out.drewN nq)
  have TT0 : Hid (Step p m w V (w.drewN nq) V) := ⟨(Keep.refl _ w).drewN nq, fun k hk => .inl hk⟩
  clear k0 k1 mp
  generalize w.drewN nq = w0 at *
  have k2 : w0.cell? ⟨p, 1031, none⟩ = some (.int .i64 S.next) := by rw [H0.out.row.cell (by omega), H0.out.next]
  have f1 : ∀ i, w0.frozen? ⟨p, i, none⟩ = false := H0.out.row.free
  go_upto_region 7 with (fail)
  have H1 : Wh (w0.setCell ⟨p, 1031, none⟩ (.int .i64 ((S.next : Int) + 1))) p m (updV V 1031 (.int .i64 ((S.next : Int) + 1))) { S with next := S.next + 1 } :=
    (H0.out.num (S' := { S with next := S.next + 1 }) (by unfold isSlot; omega) _ rfl rfl rfl (by rw [updV_other _ _ (by decide), H.out.c0]) (by rw [updV_other _ _ (by decide), H.out.c1]) (by rw [updV_other _ _ (by decide), H.out.c2])
      (by rw [updV_other _ _ (by decide), H.out.map]) (by rw [updV_other _ _ (by decide), H.out.most]) (by rw [updV_other _ _ (by decide), H.out.now]) (by rw [updV_self]; rfl))
  have T1 := TT0.out.trans (Step.num H0.out (j := 1031) (by unfold isSlot; omega) (.int .i64 ((S.next : Int) + 1)))
  clear k2 f1 TT0
  generalize w0.setCell ⟨p, 1031, none⟩ (.int .i64 ((S.next : Int) + 1)) = W1 at *
  generalize updV V 1031 (.int .i64 ((S.next : Int) + 1)) = V1 at *
  have k0 : W1.cell? ⟨p, 1028, none⟩ = some (.map (some m)) := by rw [H1.row.cell (by omega), H1.map]
  have k1 : W1.cell? ⟨p, 1030, none⟩ = some (.int .i64 S.now) := by rw [H1.row.cell (by omega), H1.now]
  have mp := Lib.hid H1.drew.mp
  have G1 := Lib.hid H1
  have TT := Lib.hid T1
  clear H1 T1
  go_still_tail 13, (by kernel_rfl)
  change wpList _ _ _ _ _ W1.drew
  go_wp2_with (first
    | (at_mapUpdate
       refine wp_map_add rfl _ _ _ rfl rfl mp.out hr.out _ rfl hw hl.out (.agg #[.int .i64 (S.now : Int), .int .i64 what]) rfl ?_
       intro w2 hm2 hg2
       have hm3 : MapAt w2 m (ents (S.live ++ [⟨S.next, S.now + 0, what⟩])) := by
         rw [ents_add]
         show MapAt w2 m (ents S.live ++ [((S.next : Int), .agg #[.int .i64 ((S.now + 0 : Nat) : Int), .int .i64 what])])
         rw [ec]
         exact hm2
       have fin := G1.out.drew.mapped hg2 hm3
       have G2 : Hid (Wh w2 p m V1 (startT S 0 what)) := fin.1
       have T2 : Hid (Step p m w V w2 V1) := TT.out.trans (⟨fin.2.keep.drewL, fin.2.sub⟩ : Step p m W1 V1 w2 V1)
       have c1 : w2.cell? ⟨p, 1030, none⟩ = some (.int .i64 S.now) := by rw [fin.1.row.cell (by omega), fin.1.now]
       have c2 : w2.cell? ⟨p, 1027, none⟩ = some (V1 1027) := fin.1.row.cell (by omega)
       have sl := G2.out.sl 1027 (.inr rfl)
       rw [lst_due] at sl
       clear fin hm2 hm3 hg2)
    | (at_builtin
       refine wp_append_one rfl _ _ rfl _ _ w2 sl S.next rfl rfl (Nat.lt_trans OK.out.due (by decide)) ?_
       intro A1 n1 d1 w3 a1 a2 a3
       have b3 : WB w3 p V1 := G2.out.row.of_block (a2.block p G2.out.row.lt (fun e => (G2.out.apart (j := 1027) (.inr rfl) e.symm).1 rfl))
       have c4 : w3.cell? ⟨p, 1027, none⟩ = some (V1 1027) := b3.cell (by omega)
       have F2 := b3.free
       have A1' := Lib.hid a1
       have A2' := Lib.hid a2
       have A3' := Lib.hid a3
       clear a1 a2 a3 b3))
  go_ret2
  have fin := G2.out.slot (j := 1027) (.inr rfl) (.slice A1 n1 d1) (S.due ++ [S.next]) (w1 := w3) (S' := start0 S what) A2'.out A1'.out A3'.out
    (lst_due _) (fun i hi hne => by unfold lst; rw [if_neg hne, if_neg hne]; rfl) rfl rfl rfl rfl rfl rfl rfl
  exact ⟨rfl, _, fin.1, T2.out.trans fin.2⟩

set_option maxHeartbeats 1000000 in
set_option maxRecDepth 100000 in
theorem start_pos (w : World) (p m : Nat) (V : Nat → Value) (S : WS) (h : Wh w p m V S) (ok : Ok S) (n : Nat) (hn0 : 0 < n) (hn1 : n ≤ 1073741824) (what : Int) (hx : S.next + 1 < 1000000000000) (hf : S.live.length < S.most) (hb : S.most < 1000000000000) :
    Calls Try.prog 12 #[.pointer (some ⟨p, 0, none⟩), iv n, .int .i64 what] w (RetW w p m V (.tuple #[iv S.next, .nilIface]) (startN S n what)) := by
  have b1 := ok.now
  have b2 := ok.next
  have k0 : w.cell? ⟨p, 1028, none⟩ = some (.map (some m)) := by rw [h.row.cell (by omega), h.map]
  have k1 : w.cell? ⟨p, 1029, none⟩ = some (.int .i64 S.most) := by rw [h.row.cell (by omega), h.most]
  have d1 : decide ((n : Int) < 0) = false := decide_eq_false (by omega)
  have d2 : decide ((n : Int) > 1073741824) = false := decide_eq_false (by omega)
  have d4 : ¬ (n : Int) = 0 := by omega
  have d3 : ¬ (S.live.length : Int) ≥ S.most := by omega
  have mp : ∀ q ty, (Builtin.len_ #[68] ty #[.map (some m)]).run Try.prog (w.drewN q) = .ok (.int .i64 S.live.length) (w.drewN q) := fun q ty => by
    rw [← ents_len]; exact (h.drewN q).mp.len ty
  have wr : IntKind.i64.wrap ((S.now : Int) + n) = (S.now : Int) + n := wrap64 (by omega) (by omega)
  have hr := Lib.hid ok.ranged
  have hl : Hid (∀ x ∈ ents S.live, x.1 ≠ (S.next : Int)) := by
    intro x hx
    obtain ⟨t, ht, rfl⟩ := List.mem_map.1 hx
    have := ok.lt_ t ht
    show (t.id : Int) ≠ S.next
    omega
  have hw := wf_i64 (a := (S.next : Int)) (by omega) (by omega)
  have OK := Lib.hid ok
  have H := Lib.hid h
  clear h ok
  unfold iv
  have ec : ((S.now + n : Nat) : Int) = ((S.now : Int) + n) := by omega
  generalize hL : S.live.length = L at *
  go_enter Try.func12, Try.ntmps12
  go_wp2_with fail
  go_quiet (fail)
  have H0 := Lib.hid (H.out.drewN nq)
  have TT0 : Hid (Step p m w V (w.drewN nq) V) := ⟨(Keep.refl _ w).drewN nq, fun k hk => .inl hk⟩
  clear k0 k1 mp
  generalize w.drewN nq = w0 at *
  have k2 : w0.cell? ⟨p, 1031, none⟩ = some (.int .i64 S.next) := by rw [H0.out.row.cell (by omega), H0.out.next]
  have f1 : ∀ i, w0.frozen? ⟨p, i, none⟩ = false := H0.out.row.free
  go_upto_region 7 with (fail)
  have H1 : Wh (w0.setCell ⟨p, 1031, none⟩ (.int .i64 ((S.next : Int) + 1))) p m (updV V 1031 (.int .i64 ((S.next : Int) + 1))) { S with next := S.next + 1 } :=
    (H0.out.num (S' := { S with next := S.next + 1 }) (by unfold isSlot; omega) _ rfl rfl rfl (by rw [updV_other _ _ (by decide), H.out.c0]) (by rw [updV_other _ _ (by decide), H.out.c1]) (by rw [updV_other _ _ (by decide), H.out.c2])
      (by rw [updV_other _ _ (by decide), H.out.map]) (by rw [updV_other _ _ (by decide), H.out.most]) (by rw [updV_other _ _ (by decide), H.out.now]) (by rw [updV_self]; rfl))
  have T1 := TT0.out.trans (Step.num H0.out (j := 1031) (by unfold isSlot; omega) (.int .i64 ((S.next : Int) + 1)))
  clear k2 f1 TT0
  generalize w0.setCell ⟨p, 1031, none⟩ (.int .i64 ((S.next : Int) + 1)) = W1 at *
  generalize updV V 1031 (.int .i64 ((S.next : Int) + 1)) = V1 at *
  have k0 : W1.cell? ⟨p, 1028, none⟩ = some (.map (some m)) := by rw [H1.row.cell (by omega), H1.map]
  have k1 : W1.cell? ⟨p, 1030, none⟩ = some (.int .i64 S.now) := by rw [H1.row.cell (by omega), H1.now]
  have mp := Lib.hid H1.drew.mp
  have G1 := Lib.hid H1
  have TT := Lib.hid T1
  clear H1 T1
  go_still_tail 13, (by kernel_rfl)
  change wpList _ _ _ _ _ W1.drew
  go_wp2_with (first
    | (at_mapUpdate
       refine wp_map_add rfl _ _ _ rfl rfl mp.out hr.out _ rfl hw hl.out (.agg #[.int .i64 ((S.now : Int) + n), .int .i64 what]) rfl ?_
       intro w2 hm2 hg2
       have hm3 : MapAt w2 m (ents (S.live ++ [⟨S.next, S.now + n, what⟩])) := by
         rw [ents_add]
         show MapAt w2 m (ents S.live ++ [((S.next : Int), .agg #[.int .i64 ((S.now + n : Nat) : Int), .int .i64 what])])
         rw [ec]
         exact hm2
       have fin := G1.out.drew.mapped hg2 hm3
       have G2 : Hid (Wh w2 p m V1 (startT S n what)) := fin.1
       have T2 : Hid (Step p m w V w2 V1) := TT.out.trans (⟨fin.2.keep.drewL, fin.2.sub⟩ : Step p m W1 V1 w2 V1)
       have c1 : w2.cell? ⟨p, 1030, none⟩ = some (.int .i64 S.now) := by rw [fin.1.row.cell (by omega), fin.1.now]
       have OK2 : Ok (startT S n what) := startT_ok OK.out n what hn1 hx
       have con := put_c w2 p m V1 (startT S n what) G2.out OK2 S.next (S.now + n) (by show S.now ≤ S.now + n; omega) (by omega)
       unfold iv at con
       rw [ec] at con
       have CON := Lib.hid con
       clear fin hm2 hm3 hg2 con OK2)
    | (go_at_call 33
       refine CON.out.mono ?_
       rintro e w3 ⟨rfl, V3, hw3, hs3⟩
       have A1 := Lib.hid hw3
       have A2 := Lib.hid hs3
       clear hw3 hs3))
  go_ret2
  exact ⟨rfl, V3, A1.out, T2.out.trans A2.out⟩

end Go.Proofs.Ytlbdfhbkemikgaa

/- The walk of put. -/
import Derived.Test.YtlbdfhbkemikgaaWh
import Derived.StillTailTactics
import Derived.Deep.CutBlock
set_option linter.unusedVariables false
set_option linter.unusedSimpArgs false
namespace Go.Proofs.Ytlbdfhbkemikgaa
open Go.RowKit Plain

theorem wraps_i64_63 (n : Int) (h0 : 0 ≤ n) (h : n < 2 ^ 63) : IntKind.i64.wrap n = n := by
  have e : (2 : Int) ^ 63 = 9223372036854775808 := by decide
  rw [e] at h
  simp [IntKind.wrap, IntKind.bits, IntKind.signed]
  omega

theorem and255 (n : Nat) (h : n < 1152921504606846976) : bits .and .i64 (n : Int) 255 = ((n % 256 : Nat) : Int) := by
  have h2 := bits_mask .i64 63 (by decide) wraps_i64_63 8 (by decide) (n : Int) (by omega) (by have : (2 : Int) ^ 63 = 9223372036854775808 := by decide
                                                                                               omega)
  have e : ((2 : Int) ^ 8 - 1) = 255 := by decide
  have e2 : ((2 : Int) ^ 8) = 256 := by decide
  rw [e, e2] at h2
  rw [h2]
  omega

/-- the wheel stands in 'S'' behind the call. -/
def RetW (w : World) (p m : Nat) (V : Nat → Value) (x : Value) (S' : WS) (e : Ending) (w' : World) : Prop :=
  e = .returned x ∧ ∃ V', Wh w' p m V' S' ∧ Step p m w V w' V'

set_option maxHeartbeats 1000000 in
set_option maxRecDepth 100000 in
theorem put_0 (w : World) (p m : Nat) (V : Nat → Value) (S : WS) (h : Wh w p m V S) (id a : Nat) (hc : a < S.now + 256) (ha : S.now ≤ a) (h2 : a < 1099511627776) (hlen : (S.slot (place S.now a)).length < 1099511627776)
    (hm : -1099511627776 < S.m0 ∧ S.m0 < 1099511627776) : Calls Try.prog 33 #[.pointer (some ⟨p, 0, none⟩), iv id, iv a] w (RetW w p m V (.tuple #[]) (put S id a)) := by
  have hp : place S.now a = 768 + a % 256 := by unfold place; rw [if_pos hc]
  have k1 : w.cell? ⟨p, 1030, none⟩ = some (.int .i64 S.now) := by rw [h.row.cell (by omega), h.now]
  have k2 : w.cell? ⟨p, 1024, none⟩ = some (.int .i64 S.m0) := by rw [h.row.cell (by omega), h.c0]
  have f1 := h.row.free
  have HS := Lib.hid h
  clear h
  have e3 : bits .and .i64 ((a : Int) / 16777216) 255 = ((a / 16777216 % 256 : Nat) : Int) := by have := and255 (a / 16777216) (by omega); rwa [show ((a / 16777216 : Nat) : Int) = (a : Int) / 16777216 by omega] at this
  have g3 : a / 16777216 % 256 < 256 := Nat.mod_lt _ (by decide)
  have e0 : bits .and .i64 (a : Int) 255 = ((a % 256 : Nat) : Int) := and255 a (by omega)
  have g0 : a % 256 < 256 := Nat.mod_lt _ (by decide)
  have t0 : (a : Int) - S.now < 256 := by omega
  have hput : put S id a = ⟨S.now, S.next, S.most, S.live, S.due, upd S.slot (place S.now a) (S.slot (place S.now a) ++ [id]), S.m0 + 1, S.m1, S.m2⟩ := by
    unfold put
    simp only [if_pos (show a < S.now + 256 by omega), if_pos (show a < S.now + 65536 by omega), if_pos (show a < S.now + 16777216 by omega)]
  rw [hput]
  have HL := Lib.hid hlen
  clear hlen hput
  rw [hp] at HL ⊢
  clear hp
  generalize a / 16777216 % 256 = r3 at *
  generalize hr0 : a % 256 = r0 at *
  go_enter Try.func33, Try.ntmps33
  unfold iv
  go_wp2_with fail
  go_still_tail 9, (by kernel_rfl)
  change wpList _ _ _ _ _ w.drew
  go_upto_region 11 with (fail)
  have H1 : Wh (w.setCell ⟨p, 1024, none⟩ (.int .i64 (S.m0 + 1))).drew p m (updV V 1024 (.int .i64 (S.m0 + 1))) { S with m0 := S.m0 + 1 } :=
    (HS.out.num (S' := { S with m0 := S.m0 + 1 }) (by unfold isSlot; omega) (.int .i64 (S.m0 + 1)) rfl rfl rfl (updV_self _ _ _) (by rw [updV_other _ _ (by decide), HS.out.c1]) (by rw [updV_other _ _ (by decide), HS.out.c2]) (by rw [updV_other _ _ (by decide), HS.out.map]) (by rw [updV_other _ _ (by decide), HS.out.most])
      (by rw [updV_other _ _ (by decide), HS.out.now]) (by rw [updV_other _ _ (by decide), HS.out.next])).drew
  have T0 := Step.num HS.out (j := 1024) (by unfold isSlot; omega) (.int .i64 (S.m0 + 1))
  have T1 : Step p m w V (w.setCell ⟨p, 1024, none⟩ (.int .i64 (S.m0 + 1))).drew (updV V 1024 (.int .i64 (S.m0 + 1))) := ⟨T0.keep.drew, T0.sub⟩
  obtain ⟨W1, hW1⟩ : ∃ W1, (w.setCell ⟨p, 1024, none⟩ (.int .i64 (S.m0 + 1))).drew = W1 := ⟨_, rfl⟩
  rw [hW1] at H1 T1 ⊢
  have k3 : W1.cell? ⟨p, 768 + r0, none⟩ = some (V (768 + r0)) := by rw [H1.row.cell (by omega), updV_other _ _ (by omega)]
  generalize hV1 : updV V 1024 (.int .i64 (S.m0 + 1)) = V1 at H1 T1
  have eV : V1 (768 + r0) = V (768 + r0) := by rw [← hV1, updV_other _ _ (by omega)]
  have sl := H1.sl (768 + r0) (by unfold isSlot; omega)
  rw [eV, lst_slot _ (by omega)] at sl
  have F1 := H1.row.free
  have HH := Lib.hid H1
  have TT := Lib.hid T1
  clear H1 T1
  go_wp2_with (first
    | (at_builtin
       refine wp_append_one rfl _ _ rfl _ _ W1 sl id rfl rfl HL.out ?_
       intro A1 n1 c1 w1 a1 a2 a3
       have b1 : WB w1 p V1 := HH.out.row.of_block (a2.block p HH.out.row.lt (fun e => (HH.out.apart (j := 768 + r0) (by unfold isSlot; omega) (by rw [eV]; exact e.symm)).1 rfl))
       have c4 : w1.cell? ⟨p, 768 + r0, none⟩ = some (V1 (768 + r0)) := b1.cell (by omega)
       have F2 := b1.free
       have A1' := Lib.hid a1
       have A2' := Lib.hid a2
       have A3' := Lib.hid a3
       clear a1 a2 a3 b1))
  go_end0
  have fin := HH.out.slot (j := 768 + r0) (by unfold isSlot; omega) (.slice A1 n1 c1) (S.slot (768 + r0) ++ [id]) (w1 := w1) (S' := ⟨S.now, S.next, S.most, S.live, S.due, upd S.slot (768 + r0) (S.slot (768 + r0) ++ [id]), S.m0 + 1, S.m1, S.m2⟩) (by rw [eV]; exact A2'.out) A1'.out (by rw [eV]; exact A3'.out)
    (by rw [lst_slot _ (by omega)]; simp [upd]) (fun i hi hne => by unfold lst; simp only [upd]; rw [if_neg hne]) rfl rfl rfl rfl rfl rfl rfl
  exact ⟨rfl, _, fin.1, TT.out.trans fin.2⟩
set_option maxHeartbeats 1000000 in
set_option maxRecDepth 100000 in
theorem put_1 (w : World) (p m : Nat) (V : Nat → Value) (S : WS) (h : Wh w p m V S) (id a : Nat) (hc0 : ¬ a < S.now + 256) (hc : a < S.now + 65536) (ha : S.now ≤ a) (h2 : a < 1099511627776) (hlen : (S.slot (place S.now a)).length < 1099511627776)
    (hm : -1099511627776 < S.m1 ∧ S.m1 < 1099511627776) : Calls Try.prog 33 #[.pointer (some ⟨p, 0, none⟩), iv id, iv a] w (RetW w p m V (.tuple #[]) (put S id a)) := by
  have hp : place S.now a = 512 + a / 256 % 256 := by unfold place; rw [if_neg hc0, if_pos hc]
  have k1 : w.cell? ⟨p, 1030, none⟩ = some (.int .i64 S.now) := by rw [h.row.cell (by omega), h.now]
  have k2 : w.cell? ⟨p, 1025, none⟩ = some (.int .i64 S.m1) := by rw [h.row.cell (by omega), h.c1]
  have f1 := h.row.free
  have HS := Lib.hid h
  clear h
  have e3 : bits .and .i64 ((a : Int) / 16777216) 255 = ((a / 16777216 % 256 : Nat) : Int) := by have := and255 (a / 16777216) (by omega); rwa [show ((a / 16777216 : Nat) : Int) = (a : Int) / 16777216 by omega] at this
  have g3 : a / 16777216 % 256 < 256 := Nat.mod_lt _ (by decide)
  have e1 : bits .and .i64 ((a : Int) / 256) 255 = ((a / 256 % 256 : Nat) : Int) := by have := and255 (a / 256) (by omega); rwa [show ((a / 256 : Nat) : Int) = (a : Int) / 256 by omega] at this
  have g1 : a / 256 % 256 < 256 := Nat.mod_lt _ (by decide)
  have t0 : ¬ (a : Int) - S.now < 256 := by omega
  have t1 : (a : Int) - S.now < 65536 := by omega
  have hput : put S id a = ⟨S.now, S.next, S.most, S.live, S.due, upd S.slot (place S.now a) (S.slot (place S.now a) ++ [id]), S.m0, S.m1 + 1, S.m2⟩ := by
    unfold put
    simp only [if_neg (show ¬ a < S.now + 256 by omega), if_pos (show a < S.now + 65536 by omega), if_pos (show a < S.now + 16777216 by omega)]
  rw [hput]
  have HL := Lib.hid hlen
  clear hlen hput
  rw [hp] at HL ⊢
  clear hp
  generalize a / 16777216 % 256 = r3 at *
  generalize a / 256 % 256 = r1 at *
  go_enter Try.func33, Try.ntmps33
  unfold iv
  go_wp2_with fail
  go_still_tail 9, (by kernel_rfl)
  change wpList _ _ _ _ _ w.drew
  go_upto_region 11 with (fail)
  have H1 : Wh (w.setCell ⟨p, 1025, none⟩ (.int .i64 (S.m1 + 1))).drew p m (updV V 1025 (.int .i64 (S.m1 + 1))) { S with m1 := S.m1 + 1 } :=
    (HS.out.num (S' := { S with m1 := S.m1 + 1 }) (by unfold isSlot; omega) (.int .i64 (S.m1 + 1)) rfl rfl rfl (by rw [updV_other _ _ (by decide), HS.out.c0]) (updV_self _ _ _) (by rw [updV_other _ _ (by decide), HS.out.c2]) (by rw [updV_other _ _ (by decide), HS.out.map]) (by rw [updV_other _ _ (by decide), HS.out.most])
      (by rw [updV_other _ _ (by decide), HS.out.now]) (by rw [updV_other _ _ (by decide), HS.out.next])).drew
  have T0 := Step.num HS.out (j := 1025) (by unfold isSlot; omega) (.int .i64 (S.m1 + 1))
  have T1 : Step p m w V (w.setCell ⟨p, 1025, none⟩ (.int .i64 (S.m1 + 1))).drew (updV V 1025 (.int .i64 (S.m1 + 1))) := ⟨T0.keep.drew, T0.sub⟩
  obtain ⟨W1, hW1⟩ : ∃ W1, (w.setCell ⟨p, 1025, none⟩ (.int .i64 (S.m1 + 1))).drew = W1 := ⟨_, rfl⟩
  rw [hW1] at H1 T1 ⊢
  have k3 : W1.cell? ⟨p, 512 + r1, none⟩ = some (V (512 + r1)) := by rw [H1.row.cell (by omega), updV_other _ _ (by omega)]
  generalize hV1 : updV V 1025 (.int .i64 (S.m1 + 1)) = V1 at H1 T1
  have eV : V1 (512 + r1) = V (512 + r1) := by rw [← hV1, updV_other _ _ (by omega)]
  have sl := H1.sl (512 + r1) (by unfold isSlot; omega)
  rw [eV, lst_slot _ (by omega)] at sl
  have F1 := H1.row.free
  have HH := Lib.hid H1
  have TT := Lib.hid T1
  clear H1 T1
  go_wp2_with (first
    | (at_builtin
       refine wp_append_one rfl _ _ rfl _ _ W1 sl id rfl rfl HL.out ?_
       intro A1 n1 c1 w1 a1 a2 a3
       have b1 : WB w1 p V1 := HH.out.row.of_block (a2.block p HH.out.row.lt (fun e => (HH.out.apart (j := 512 + r1) (by unfold isSlot; omega) (by rw [eV]; exact e.symm)).1 rfl))
       have c4 : w1.cell? ⟨p, 512 + r1, none⟩ = some (V1 (512 + r1)) := b1.cell (by omega)
       have F2 := b1.free
       have A1' := Lib.hid a1
       have A2' := Lib.hid a2
       have A3' := Lib.hid a3
       clear a1 a2 a3 b1))
  go_end0
  have fin := HH.out.slot (j := 512 + r1) (by unfold isSlot; omega) (.slice A1 n1 c1) (S.slot (512 + r1) ++ [id]) (w1 := w1) (S' := ⟨S.now, S.next, S.most, S.live, S.due, upd S.slot (512 + r1) (S.slot (512 + r1) ++ [id]), S.m0, S.m1 + 1, S.m2⟩) (by rw [eV]; exact A2'.out) A1'.out (by rw [eV]; exact A3'.out)
    (by rw [lst_slot _ (by omega)]; simp [upd]) (fun i hi hne => by unfold lst; simp only [upd]; rw [if_neg hne]) rfl rfl rfl rfl rfl rfl rfl
  exact ⟨rfl, _, fin.1, TT.out.trans fin.2⟩
set_option maxHeartbeats 1000000 in
set_option maxRecDepth 100000 in
theorem put_2 (w : World) (p m : Nat) (V : Nat → Value) (S : WS) (h : Wh w p m V S) (id a : Nat) (hc0 : ¬ a < S.now + 65536) (hc : a < S.now + 16777216) (ha : S.now ≤ a) (h2 : a < 1099511627776) (hlen : (S.slot (place S.now a)).length < 1099511627776)
    (hm : -1099511627776 < S.m2 ∧ S.m2 < 1099511627776) : Calls Try.prog 33 #[.pointer (some ⟨p, 0, none⟩), iv id, iv a] w (RetW w p m V (.tuple #[]) (put S id a)) := by
  have hp : place S.now a = 256 + a / 65536 % 256 := by unfold place; rw [if_neg (show ¬ a < S.now + 256 by omega), if_neg hc0, if_pos hc]
  have k1 : w.cell? ⟨p, 1030, none⟩ = some (.int .i64 S.now) := by rw [h.row.cell (by omega), h.now]
  have k2 : w.cell? ⟨p, 1026, none⟩ = some (.int .i64 S.m2) := by rw [h.row.cell (by omega), h.c2]
  have f1 := h.row.free
  have HS := Lib.hid h
  clear h
  have e3 : bits .and .i64 ((a : Int) / 16777216) 255 = ((a / 16777216 % 256 : Nat) : Int) := by have := and255 (a / 16777216) (by omega); rwa [show ((a / 16777216 : Nat) : Int) = (a : Int) / 16777216 by omega] at this
  have g3 : a / 16777216 % 256 < 256 := Nat.mod_lt _ (by decide)
  have e2 : bits .and .i64 ((a : Int) / 65536) 255 = ((a / 65536 % 256 : Nat) : Int) := by have := and255 (a / 65536) (by omega); rwa [show ((a / 65536 : Nat) : Int) = (a : Int) / 65536 by omega] at this
  have g2 : a / 65536 % 256 < 256 := Nat.mod_lt _ (by decide)
  have t0 : ¬ (a : Int) - S.now < 256 := by omega
  have t1 : ¬ (a : Int) - S.now < 65536 := by omega
  have t2 : (a : Int) - S.now < 16777216 := by omega
  have hput : put S id a = ⟨S.now, S.next, S.most, S.live, S.due, upd S.slot (place S.now a) (S.slot (place S.now a) ++ [id]), S.m0, S.m1, S.m2 + 1⟩ := by
    unfold put
    simp only [if_neg (show ¬ a < S.now + 256 by omega), if_neg (show ¬ a < S.now + 65536 by omega), if_pos (show a < S.now + 16777216 by omega)]
  rw [hput]
  have HL := Lib.hid hlen
  clear hlen hput
  rw [hp] at HL ⊢
  clear hp
  generalize a / 16777216 % 256 = r3 at *
  generalize a / 65536 % 256 = r2 at *
  go_enter Try.func33, Try.ntmps33
  unfold iv
  go_wp2_with fail
  go_still_tail 9, (by kernel_rfl)
  change wpList _ _ _ _ _ w.drew
  go_upto_region 11 with (fail)
  have H1 : Wh (w.setCell ⟨p, 1026, none⟩ (.int .i64 (S.m2 + 1))).drew p m (updV V 1026 (.int .i64 (S.m2 + 1))) { S with m2 := S.m2 + 1 } :=
    (HS.out.num (S' := { S with m2 := S.m2 + 1 }) (by unfold isSlot; omega) (.int .i64 (S.m2 + 1)) rfl rfl rfl (by rw [updV_other _ _ (by decide), HS.out.c0]) (by rw [updV_other _ _ (by decide), HS.out.c1]) (updV_self _ _ _) (by rw [updV_other _ _ (by decide), HS.out.map]) (by rw [updV_other _ _ (by decide), HS.out.most])
      (by rw [updV_other _ _ (by decide), HS.out.now]) (by rw [updV_other _ _ (by decide), HS.out.next])).drew
  have T0 := Step.num HS.out (j := 1026) (by unfold isSlot; omega) (.int .i64 (S.m2 + 1))
  have T1 : Step p m w V (w.setCell ⟨p, 1026, none⟩ (.int .i64 (S.m2 + 1))).drew (updV V 1026 (.int .i64 (S.m2 + 1))) := ⟨T0.keep.drew, T0.sub⟩
  obtain ⟨W1, hW1⟩ : ∃ W1, (w.setCell ⟨p, 1026, none⟩ (.int .i64 (S.m2 + 1))).drew = W1 := ⟨_, rfl⟩
  rw [hW1] at H1 T1 ⊢
  have k3 : W1.cell? ⟨p, 256 + r2, none⟩ = some (V (256 + r2)) := by rw [H1.row.cell (by omega), updV_other _ _ (by omega)]
  generalize hV1 : updV V 1026 (.int .i64 (S.m2 + 1)) = V1 at H1 T1
  have eV : V1 (256 + r2) = V (256 + r2) := by rw [← hV1, updV_other _ _ (by omega)]
  have sl := H1.sl (256 + r2) (by unfold isSlot; omega)
  rw [eV, lst_slot _ (by omega)] at sl
  have F1 := H1.row.free
  have HH := Lib.hid H1
  have TT := Lib.hid T1
  clear H1 T1
  go_wp2_with (first
    | (at_builtin
       refine wp_append_one rfl _ _ rfl _ _ W1 sl id rfl rfl HL.out ?_
       intro A1 n1 c1 w1 a1 a2 a3
       have b1 : WB w1 p V1 := HH.out.row.of_block (a2.block p HH.out.row.lt (fun e => (HH.out.apart (j := 256 + r2) (by unfold isSlot; omega) (by rw [eV]; exact e.symm)).1 rfl))
       have c4 : w1.cell? ⟨p, 256 + r2, none⟩ = some (V1 (256 + r2)) := b1.cell (by omega)
       have F2 := b1.free
       have A1' := Lib.hid a1
       have A2' := Lib.hid a2
       have A3' := Lib.hid a3
       clear a1 a2 a3 b1))
  go_end0
  have fin := HH.out.slot (j := 256 + r2) (by unfold isSlot; omega) (.slice A1 n1 c1) (S.slot (256 + r2) ++ [id]) (w1 := w1) (S' := ⟨S.now, S.next, S.most, S.live, S.due, upd S.slot (256 + r2) (S.slot (256 + r2) ++ [id]), S.m0, S.m1, S.m2 + 1⟩) (by rw [eV]; exact A2'.out) A1'.out (by rw [eV]; exact A3'.out)
    (by rw [lst_slot _ (by omega)]; simp [upd]) (fun i hi hne => by unfold lst; simp only [upd]; rw [if_neg hne]) rfl rfl rfl rfl rfl rfl rfl
  exact ⟨rfl, _, fin.1, TT.out.trans fin.2⟩
set_option maxHeartbeats 1000000 in
set_option maxRecDepth 100000 in
theorem put_3 (w : World) (p m : Nat) (V : Nat → Value) (S : WS) (h : Wh w p m V S) (id a : Nat) (hc0 : ¬ a < S.now + 16777216) (ha : S.now ≤ a) (h2 : a < 1099511627776) (hlen : (S.slot (place S.now a)).length < 1099511627776)
: Calls Try.prog 33 #[.pointer (some ⟨p, 0, none⟩), iv id, iv a] w (RetW w p m V (.tuple #[]) (put S id a)) := by
  have hp : place S.now a = a / 16777216 % 256 := by unfold place; rw [if_neg (show ¬ a < S.now + 256 by omega), if_neg (show ¬ a < S.now + 65536 by omega), if_neg hc0]
  have k1 : w.cell? ⟨p, 1030, none⟩ = some (.int .i64 S.now) := by rw [h.row.cell (by omega), h.now]
  have f1 := h.row.free
  have HS := Lib.hid h
  clear h
  have e3 : bits .and .i64 ((a : Int) / 16777216) 255 = ((a / 16777216 % 256 : Nat) : Int) := by have := and255 (a / 16777216) (by omega); rwa [show ((a / 16777216 : Nat) : Int) = (a : Int) / 16777216 by omega] at this
  have g3 : a / 16777216 % 256 < 256 := Nat.mod_lt _ (by decide)
  have t0 : ¬ (a : Int) - S.now < 256 := by omega
  have t1 : ¬ (a : Int) - S.now < 65536 := by omega
  have t2 : ¬ (a : Int) - S.now < 16777216 := by omega
  have hput : put S id a = ⟨S.now, S.next, S.most, S.live, S.due, upd S.slot (place S.now a) (S.slot (place S.now a) ++ [id]), S.m0, S.m1, S.m2⟩ := by
    unfold put
    simp only [if_neg (show ¬ a < S.now + 256 by omega), if_neg (show ¬ a < S.now + 65536 by omega), if_neg (show ¬ a < S.now + 16777216 by omega)]
  rw [hput]
  have HL := Lib.hid hlen
  clear hlen hput
  rw [hp] at HL ⊢
  clear hp
  generalize a / 16777216 % 256 = r3 at *
  go_enter Try.func33, Try.ntmps33
  unfold iv
  go_upto_region 11 with (fail)
  have H1 := HS.out
  have T1 := Step.refl p m w V
  obtain ⟨W1, hW1⟩ : ∃ W1, w = W1 := ⟨_, rfl⟩
  rw [hW1] at H1 T1 ⊢
  have k3 : W1.cell? ⟨p, r3, none⟩ = some (V (r3)) := H1.row.cell (by omega)
  obtain ⟨V1, hV1⟩ : ∃ V1, V = V1 := ⟨_, rfl⟩
  rw [hV1] at H1 T1
  have eV : V1 (r3) = V (r3) := by rw [hV1]
  have sl := H1.sl (r3) (by unfold isSlot; omega)
  rw [eV, lst_slot _ (by omega)] at sl
  have F1 := H1.row.free
  have HH := Lib.hid H1
  have TT := Lib.hid T1
  clear H1 T1
  go_wp2_with (first
    | (at_builtin
       refine wp_append_one rfl _ _ rfl _ _ W1 sl id rfl rfl HL.out ?_
       intro A1 n1 c1 w1 a1 a2 a3
       have b1 : WB w1 p V1 := HH.out.row.of_block (a2.block p HH.out.row.lt (fun e => (HH.out.apart (j := r3) (by unfold isSlot; omega) (by rw [eV]; exact e.symm)).1 rfl))
       have c4 : w1.cell? ⟨p, r3, none⟩ = some (V1 (r3)) := b1.cell (by omega)
       have F2 := b1.free
       have A1' := Lib.hid a1
       have A2' := Lib.hid a2
       have A3' := Lib.hid a3
       clear a1 a2 a3 b1))
  go_end0
  have fin := HH.out.slot (j := r3) (by unfold isSlot; omega) (.slice A1 n1 c1) (S.slot (r3) ++ [id]) (w1 := w1) (S' := ⟨S.now, S.next, S.most, S.live, S.due, upd S.slot r3 (S.slot r3 ++ [id]), S.m0, S.m1, S.m2⟩) (by rw [eV]; exact A2'.out) A1'.out (by rw [eV]; exact A3'.out)
    (by rw [lst_slot _ (by omega)]; simp [upd]) (fun i hi hne => by unfold lst; simp only [upd]; rw [if_neg hne]) rfl rfl rfl rfl rfl rfl rfl
  exact ⟨rfl, _, fin.1, TT.out.trans fin.2⟩
end Go.Proofs.Ytlbdfhbkemikgaa

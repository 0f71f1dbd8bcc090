/- The walk of one. -/
import Derived.Test.YtlbdfhbkemikgaaWalkE
set_option linter.unusedVariables false
set_option linter.unusedSimpArgs false
namespace Go.Proofs.Ytlbdfhbkemikgaa
open Go.RowKit Plain

def tickS (S : WS) : WS := { S with now := S.now + 1 }
def lastS (S : WS) : WS := { S with slot := upd S.slot (768 + S.now % 256) [], m0 := S.m0 - (S.slot (768 + S.now % 256)).length }
def lastL (S : WS) : List Nat := S.slot (768 + S.now % 256)
def mv3 (S : WS) : WS := moved S 3 (S.now / 16777216 % 256)
def mv2 (S : WS) : WS := moved S 2 (256 + S.now / 65536 % 256)
def mv1 (S : WS) : WS := moved S 1 (512 + S.now / 256 % 256)

/-- what move asks. -/
structure MOk (S : WS) (lvl j : Nat) : Prop where
  ok : Ok S
  okn : OkN (taken S lvl j) (S.slot j).length
  ids : ∀ id ∈ S.slot j, id < 1000000000000

theorem putOne_now (S : WS) (id : Nat) : (putOne S id).now = S.now := by unfold putOne; split <;> rfl
theorem putAll_now (S : WS) : ∀ l, (putAll S l).now = S.now := by
  intro l
  induction l generalizing S with
  | nil => rfl
  | cons x l ih => show (putAll (putOne S x) l).now = _; rw [ih, putOne_now]
theorem moved_now (S : WS) (lvl j : Nat) : (moved S lvl j).now = S.now := putAll_now _ _

def RetOne (w : World) (p m : Nat) (V : Nat → Value) (S' : WS) (l : List Nat) (e : Ending) (w' : World) : Prop :=
  ∃ v V', e = .returned v ∧ Wh w' p m V' S' ∧ Step p m w V w' V' ∧ Sl w' v l ∧ ∀ g, v.ownBlock = some g → ¬ foot p m V' g ∧ (foot p m V g ∨ w.heap.size ≤ g)

theorem two63 (n : Int) (h : n < 1152921504606846976) : n < (2 : Int) ^ 63 := by
  have : (2 : Int) ^ 63 = 9223372036854775808 := by decide
  omega

theorem and_low (i : Nat) (hi : i ≤ 63) (M : Int) (hM : (2 : Int) ^ i - 1 = M) (n : Nat) (h : n < 1152921504606846976) : bits .and .i64 (n : Int) M = (n : Int) % (2 : Int) ^ i := by
  rw [← hM]
  exact bits_mask .i64 63 (by decide) wraps_i64_63 i hi (n : Int) (by omega) (two63 (n : Int) (by omega))

theorem and255d (n d : Nat) (h : n < 1152921504606846976) : bits .and .i64 ((n : Int) / (d : Int)) 255 = ((n / d % 256 : Nat) : Int) := by
  have := and255 (n / d) (Nat.lt_of_le_of_lt (Nat.div_le_self _ _) h)
  rwa [show ((n / d : Nat) : Int) = (n : Int) / (d : Int) by simp] at this

set_option maxHeartbeats 1000000 in
set_option maxRecDepth 100000 in
theorem one_A (w : World) (p m : Nat) (V : Nat → Value) (S : WS) (h : Wh w p m V S) (hn : (S.now + 1) % 16777216 = 0) (hb : S.now < 1000000000000) (mo3 : MOk (tickS S) 3 ((tickS S).now / 16777216 % 256)) (mo2 : MOk (mv3 (tickS S)) 2 (256 + (mv3 (tickS S)).now / 65536 % 256)) (mo1 : MOk (mv2 (mv3 (tickS S))) 1 (512 + (mv2 (mv3 (tickS S))).now / 256 % 256)) (okl : Ok (mv1 (mv2 (mv3 (tickS S))))) :
    Calls Try.prog 32 #[.pointer (some ⟨p, 0, none⟩)] w (RetOne w p m V (lastS (mv1 (mv2 (mv3 (tickS S))))) (lastL (mv1 (mv2 (mv3 (tickS S)))))) := by
  have k0 : w.cell? ⟨p, 1030, none⟩ = some (.int .i64 S.now) := by rw [h.row.cell (by omega), h.now]
  have f0 := h.row.free
  have H := Lib.hid h
  have OKL := Lib.hid okl
  have MO3 := Lib.hid mo3
  have MO2 := Lib.hid mo2
  have MO1 := Lib.hid mo1
  clear h okl mo3 mo2 mo1
  have ec : ((S.now + 1 : Nat) : Int) = (S.now : Int) + 1 := by omega
  have p24 : (2 : Int) ^ 24 = 16777216 := by decide
  have p16 : (2 : Int) ^ 16 = 65536 := by decide
  have p8 : (2 : Int) ^ 8 = 256 := by decide
  have a24 := and_low 24 (by decide) 16777215 (by decide) (S.now + 1) (by omega)
  have a16 := and_low 16 (by decide) 65535 (by decide) (S.now + 1) (by omega)
  have a8 := and_low 8 (by decide) 255 (by decide) (S.now + 1) (by omega)
  have e3 : bits .and .i64 (((S.now : Int) + 1) / 16777216) 255 = (((S.now + 1) / 16777216 % 256 : Nat) : Int) := by have := and255d (S.now + 1) 16777216 (by omega); rw [ec] at this; exact this
  have e2 : bits .and .i64 (((S.now : Int) + 1) / 65536) 255 = (((S.now + 1) / 65536 % 256 : Nat) : Int) := by have := and255d (S.now + 1) 65536 (by omega); rw [ec] at this; exact this
  have e1 : bits .and .i64 (((S.now : Int) + 1) / 256) 255 = (((S.now + 1) / 256 % 256 : Nat) : Int) := by have := and255d (S.now + 1) 256 (by omega); rw [ec] at this; exact this
  rw [p24] at a24
  rw [p16] at a16
  rw [p8] at a8
  rw [ec] at a24 a16 a8
  have b24 : bits .and .i64 ((S.now : Int) + 1) 16777215 = 0 := by rw [a24]; omega
  have c8 : bits .and .i64 ((S.now : Int) + 1) 255 = (((S.now + 1) % 256 : Nat) : Int) := by rw [a8]; omega
  clear a24 a16 a8 p24 p16 p8
  have g3 : (S.now + 1) / 16777216 % 256 < 256 := Nat.mod_lt _ (by decide)
  have g2 : (S.now + 1) / 65536 % 256 < 256 := Nat.mod_lt _ (by decide)
  have g1 : (S.now + 1) / 256 % 256 < 256 := Nat.mod_lt _ (by decide)
  have g0 : (S.now + 1) % 256 < 256 := Nat.mod_lt _ (by decide)
  have now3 : (tickS S).now = S.now + 1 := rfl
  rw [now3] at MO3
  have con3 : Hid (∀ w1 V1, Wh w1 p m V1 (tickS S) → Calls Try.prog 45 #[.pointer (some ⟨p, 0, none⟩), .int .i64 3, .pointer (some ⟨p, (S.now + 1) / 16777216 % 256, none⟩)] w1 (RetW w1 p m V1 (.tuple #[]) (mv3 (tickS S)))) := fun w1 V1 h1 => by
    unfold mv3
    rw [now3]
    exact move_3 w1 p m V1 (tickS S) h1 _ g3 MO3.out.ok MO3.out.okn MO3.out.ids
  have now2 : (mv3 (tickS S)).now = S.now + 1 := by rw [show (mv3 (tickS S)).now = (tickS S).now from moved_now _ _ _]; rfl
  rw [now2] at MO2
  have con2 : Hid (∀ w1 V1, Wh w1 p m V1 (mv3 (tickS S)) → Calls Try.prog 45 #[.pointer (some ⟨p, 0, none⟩), .int .i64 2, .pointer (some ⟨p, 256 + (S.now + 1) / 65536 % 256, none⟩)] w1 (RetW w1 p m V1 (.tuple #[]) (mv2 (mv3 (tickS S))))) := fun w1 V1 h1 => by
    unfold mv2
    rw [now2]
    exact move_2 w1 p m V1 (mv3 (tickS S)) h1 _ (by omega) (by omega) MO2.out.ok MO2.out.okn MO2.out.ids
  have now1 : (mv2 (mv3 (tickS S))).now = S.now + 1 := by rw [show (mv2 (mv3 (tickS S))).now = (mv3 (tickS S)).now from moved_now _ _ _]; rw [show (mv3 (tickS S)).now = (tickS S).now from moved_now _ _ _]; rfl
  rw [now1] at MO1
  have con1 : Hid (∀ w1 V1, Wh w1 p m V1 (mv2 (mv3 (tickS S))) → Calls Try.prog 45 #[.pointer (some ⟨p, 0, none⟩), .int .i64 1, .pointer (some ⟨p, 512 + (S.now + 1) / 256 % 256, none⟩)] w1 (RetW w1 p m V1 (.tuple #[]) (mv1 (mv2 (mv3 (tickS S)))))) := fun w1 V1 h1 => by
    unfold mv1
    rw [now1]
    exact move_1 w1 p m V1 (mv2 (mv3 (tickS S))) h1 _ (by omega) (by omega) MO1.out.ok MO1.out.okn MO1.out.ids
  have nw2 := now2
  have nw1 := now1
  have nowz : (mv1 (mv2 (mv3 (tickS S)))).now = S.now + 1 := by rw [show (mv1 (mv2 (mv3 (tickS S)))).now = (mv2 (mv3 (tickS S))).now from moved_now _ _ _]; rw [show (mv2 (mv3 (tickS S))).now = (mv3 (tickS S)).now from moved_now _ _ _]; rw [show (mv3 (tickS S)).now = (tickS S).now from moved_now _ _ _]; rfl
  clear now3 MO3 now2 MO2 now1 MO1
  have hlast : lastS (mv1 (mv2 (mv3 (tickS S)))) = ⟨(mv1 (mv2 (mv3 (tickS S)))).now, (mv1 (mv2 (mv3 (tickS S)))).next, (mv1 (mv2 (mv3 (tickS S)))).most, (mv1 (mv2 (mv3 (tickS S)))).live, (mv1 (mv2 (mv3 (tickS S)))).due, upd (mv1 (mv2 (mv3 (tickS S)))).slot (768 + (S.now + 1) % 256) [], (mv1 (mv2 (mv3 (tickS S)))).m0 - ((mv1 (mv2 (mv3 (tickS S)))).slot (768 + (S.now + 1) % 256)).length, (mv1 (mv2 (mv3 (tickS S)))).m1, (mv1 (mv2 (mv3 (tickS S)))).m2⟩ := by unfold lastS; rw [nowz]
  have hll : lastL (mv1 (mv2 (mv3 (tickS S)))) = (mv1 (mv2 (mv3 (tickS S)))).slot (768 + (S.now + 1) % 256) := by unfold lastL; rw [nowz]
  rw [hlast, hll]
  clear hlast hll
  clear hn
  generalize (S.now + 1) / 16777216 % 256 = r3 at *
  generalize (S.now + 1) / 65536 % 256 = r2 at *
  generalize (S.now + 1) / 256 % 256 = r1 at *
  generalize (S.now + 1) % 256 = r0 at *
  generalize hTS : tickS S = TS at *
  generalize mv3 TS = SS3 at *
  generalize mv2 SS3 = SS2 at *
  generalize mv1 SS2 = SS1 at *
  have NW2 := Lib.hid nw2
  clear nw2
  have NW1 := Lib.hid nw1
  clear nw1
  have NWZ := Lib.hid nowz
  have EC := Lib.hid ec
  have HTS := Lib.hid hTS
  clear nowz ec hTS
  go_enter Try.func32, Try.ntmps32
  go_upto_region 2 with (fail)
  have H1 : Hid (Wh (w.setCell ⟨p, 1030, none⟩ (.int .i64 ((S.now : Int) + 1))) p m (updV V 1030 (.int .i64 ((S.now : Int) + 1))) TS) :=
    HTS.out ▸ H.out.num (S' := tickS S) (by unfold isSlot; omega) (.int .i64 ((S.now : Int) + 1)) rfl rfl rfl (by rw [updV_other _ _ (by decide), H.out.c0]; rfl) (by rw [updV_other _ _ (by decide), H.out.c1]; rfl) (by rw [updV_other _ _ (by decide), H.out.c2]; rfl)
      (by rw [updV_other _ _ (by decide), H.out.map]) (by rw [updV_other _ _ (by decide), H.out.most]; rfl) (by rw [updV_self]; rfl) (by rw [updV_other _ _ (by decide), H.out.next]; rfl)
  have T1 := Lib.hid (Step.num H.out (j := 1030) (by unfold isSlot; omega) (.int .i64 ((S.now : Int) + 1)))
  clear k0 f0
  generalize w.setCell ⟨p, 1030, none⟩ (.int .i64 ((S.now : Int) + 1)) = w1 at *
  generalize updV V 1030 (.int .i64 ((S.now : Int) + 1)) = V1 at *
  have k0 : w1.cell? ⟨p, 1030, none⟩ = some (.int .i64 ((S.now : Int) + 1)) := by rw [H1.out.row.cell (by omega), H1.out.now, ← HTS.out]; rfl
  go_wp2_with fail
  refine (con3.out w1 V1 H1.out).mono ?_
  rintro e x3 ⟨rfl, U3, hw, hs⟩
  have Hx3 := Lib.hid hw
  have Tx3 := Lib.hid (T1.out.trans hs)
  have kn3 : x3.cell? ⟨p, 1030, none⟩ = some (.int .i64 ((S.now : Int) + 1)) := by rw [hw.row.cell (by omega), hw.now, NW2.out, EC.out]
  clear hw hs con3 k0
  go_wp2_with fail
  refine (con2.out x3 U3 Hx3.out).mono ?_
  rintro e x2 ⟨rfl, U2, hw, hs⟩
  have Hx2 := Lib.hid hw
  have Tx2 := Lib.hid (Tx3.out.trans hs)
  have kn2 : x2.cell? ⟨p, 1030, none⟩ = some (.int .i64 ((S.now : Int) + 1)) := by rw [hw.row.cell (by omega), hw.now, NW1.out, EC.out]
  clear hw hs con2 kn3
  go_wp2_with fail
  refine (con1.out x2 U2 Hx2.out).mono ?_
  rintro e x1 ⟨rfl, U1, hw, hs⟩
  have Hx1 := Lib.hid hw
  have Tx1 := Lib.hid (Tx2.out.trans hs)
  have kn1 : x1.cell? ⟨p, 1030, none⟩ = some (.int .i64 ((S.now : Int) + 1)) := by rw [hw.row.cell (by omega), hw.now, NWZ.out, EC.out]
  clear hw hs con1 kn2
  go_wp2_with fail
  have sl := Hx1.out.sl (768 + r0) (by unfold isSlot; omega)
  rw [lst_slot _ (by omega)] at sl
  have b3 := OKL.out.len (768 + r0) (by omega)
  have b4 := OKL.out.m0
  obtain ⟨A, c, hU⟩ : ∃ A c, U1 (768 + r0) = .slice A (SS1.slot (768 + r0)).length c := by
    rcases sl_cases sl with ⟨h1, h2⟩ | ⟨g, c, h1⟩
    · exact ⟨none, 0, by rw [h1, h2]; rfl⟩
    · exact ⟨_, c, h1⟩
  have kJ : x1.cell? ⟨p, 768 + r0, none⟩ = some (.slice A (SS1.slot (768 + r0)).length c) := by rw [Hx1.out.row.cell (by omega), hU]
  have HU := Lib.hid hU
  rw [hU] at sl
  have SL := Lib.hid sl
  clear sl hU
  go_quiet (fail)
  have HY := Lib.hid (Hx1.out.drewN nq)
  have TY : Hid (Step p m w V (x1.drewN nq) U1) := ⟨Tx1.out.keep.drewN nq, Tx1.out.sub⟩
  have SLY : Hid (Sl (x1.drewN nq) (.slice A (SS1.slot (768 + r0)).length c) (SS1.slot (768 + r0))) := SL.out.of_block (fun _ _ => rfl)
  clear kn1 kJ SL Hx1 Tx1
  generalize x1.drewN nq = Y at *
  have kn : Y.cell? ⟨p, 1030, none⟩ = some (.int .i64 ((S.now : Int) + 1)) := by rw [HY.out.row.cell (by omega), HY.out.now, NWZ.out, EC.out]
  have kJ : Y.cell? ⟨p, 768 + r0, none⟩ = some (.slice A (SS1.slot (768 + r0)).length c) := by rw [HY.out.row.cell (by omega), HU.out]
  have fr := HY.out.row.free
  go_wp2
  have gi : (r0 : Int) < 256 := by omega
  go_still_tail 9, (by kernel_rfl)
  change wpList _ _ _ _ _ Y.drew
  go_upto_region 11 with (fail)
  have fin := Lib.hid (HY.out.slot (j := 768 + r0) (by unfold isSlot; omega) (.slice none 0 0) [] (w1 := Y) (S' := { SS1 with slot := upd SS1.slot (768 + r0) [] }) (⟨rfl, rfl, rfl, Nat.le_refl _, fun _ _ _ => rfl⟩ : Y.grownBy Y _) (Sl.nil Y) (fun g hg => by simp [Value.ownBlock] at hg)
      (by rw [lst_slot _ (by omega)]; simp [upd]) (fun i hi hne => by unfold lst; simp only [upd]; rw [if_neg hne]) rfl rfl rfl rfl rfl rfl rfl)
  have HZ : Hid (Wh (Y.setCell ⟨p, 768 + r0, none⟩ (.slice none 0 0)).drew p m (updV U1 (768 + r0) (.slice none 0 0)) { SS1 with slot := upd SS1.slot (768 + r0) [] }) := fin.out.1.drew
  have TZ : Hid (Step p m w V (Y.setCell ⟨p, 768 + r0, none⟩ (.slice none 0 0)).drew (updV U1 (768 + r0) (.slice none 0 0))) := TY.out.trans ⟨fin.out.2.keep.drew, fin.out.2.sub⟩
  have OW : Hid (∀ g, (Value.slice A (SS1.slot (768 + r0)).length c).ownBlock = some g → g ≠ p ∧ ¬ foot p m (updV U1 (768 + r0) (.slice none 0 0)) g ∧ (foot p m V g ∨ w.heap.size ≤ g)) := fun g hg => by
    have hgo : (U1 (768 + r0)).ownBlock = some g := by rw [HU.out]; exact hg
    have ap := HY.out.apart (j := 768 + r0) (by unfold isSlot; omega) hgo
    refine ⟨ap.1, ?_, TY.out.sub g (.inr (.inr ⟨_, by unfold isSlot; omega, hgo⟩))⟩
    rintro (h1 | h1 | ⟨i, hi, hi2⟩)
    · exact ap.1 h1
    · exact ap.2 h1
    · by_cases ei : i = 768 + r0
      · subst ei; rw [updV_self] at hi2; simp [Value.ownBlock] at hi2
      · rw [updV_other _ _ ei] at hi2; exact ei (HY.out.inj i _ g hi (by unfold isSlot; omega) hi2 hgo)
  have SLZ : Hid (Sl (Y.setCell ⟨p, 768 + r0, none⟩ (.slice none 0 0)).drew (.slice A (SS1.slot (768 + r0)).length c) (SS1.slot (768 + r0))) := SLY.out.of_block (fun g hg => Below.heap_setCell Y _ _ _ (OW.out g hg).1)
  clear fin kn kJ fr SLY HU
  generalize (Y.setCell ⟨p, 768 + r0, none⟩ (.slice none 0 0)).drew = Z at *
  generalize updV U1 (768 + r0) (.slice none 0 0) = VZ at *
  have km : Z.cell? ⟨p, 1024, none⟩ = some (.int .i64 SS1.m0) := by rw [HZ.out.row.cell (by omega), HZ.out.c0]
  have fr := HZ.out.row.free
  have wr0 : IntKind.i64.wrap (SS1.m0 - (SS1.slot (768 + r0)).length) = SS1.m0 - (SS1.slot (768 + r0)).length := wrap_ok (by omega) (by omega)
  go_still_tail 11, (by kernel_rfl)
  change wpList _ _ _ _ _ Z.drew
  go_wp2_with fail
  go_ret
  have HF := HZ.out.num (S' := ⟨SS1.now, SS1.next, SS1.most, SS1.live, SS1.due, upd SS1.slot (768 + r0) [], SS1.m0 - (SS1.slot (768 + r0)).length, SS1.m1, SS1.m2⟩) (j := 1024) (by unfold isSlot; omega) (.int .i64 (SS1.m0 - (SS1.slot (768 + r0)).length)) rfl rfl rfl (updV_self _ _ _) (by rw [updV_other _ _ (by decide), HZ.out.c1]) (by rw [updV_other _ _ (by decide), HZ.out.c2])
      (by rw [updV_other _ _ (by decide), HZ.out.map]) (by rw [updV_other _ _ (by decide), HZ.out.most]) (by rw [updV_other _ _ (by decide), HZ.out.now]) (by rw [updV_other _ _ (by decide), HZ.out.next])
  have TF := Step.num HZ.out (j := 1024) (by unfold isSlot; omega) (.int .i64 (SS1.m0 - (SS1.slot (768 + r0)).length))
  have T9 := TZ.out.trans TF
  refine ⟨_, _, rfl, HF.drew, ⟨T9.keep.drew, T9.sub⟩, SLZ.out.of_block (fun g hg => Below.heap_setCell Z _ _ _ (OW.out g hg).1), fun g hg => ⟨fun hf => (OW.out g hg).2.1 ((foot_updV (by unfold isSlot; omega) _).1 hf), (OW.out g hg).2.2⟩⟩

set_option maxHeartbeats 1000000 in
set_option maxRecDepth 100000 in
theorem one_B (w : World) (p m : Nat) (V : Nat → Value) (S : WS) (h : Wh w p m V S) (hn0 : ¬ (S.now + 1) % 16777216 = 0) (hn : (S.now + 1) % 65536 = 0) (hb : S.now < 1000000000000) (mo2 : MOk (tickS S) 2 (256 + (tickS S).now / 65536 % 256)) (mo1 : MOk (mv2 (tickS S)) 1 (512 + (mv2 (tickS S)).now / 256 % 256)) (okl : Ok (mv1 (mv2 (tickS S)))) :
    Calls Try.prog 32 #[.pointer (some ⟨p, 0, none⟩)] w (RetOne w p m V (lastS (mv1 (mv2 (tickS S)))) (lastL (mv1 (mv2 (tickS S))))) := by
  have k0 : w.cell? ⟨p, 1030, none⟩ = some (.int .i64 S.now) := by rw [h.row.cell (by omega), h.now]
  have f0 := h.row.free
  have H := Lib.hid h
  have OKL := Lib.hid okl
  have MO2 := Lib.hid mo2
  have MO1 := Lib.hid mo1
  clear h okl mo2 mo1
  have ec : ((S.now + 1 : Nat) : Int) = (S.now : Int) + 1 := by omega
  have p24 : (2 : Int) ^ 24 = 16777216 := by decide
  have p16 : (2 : Int) ^ 16 = 65536 := by decide
  have p8 : (2 : Int) ^ 8 = 256 := by decide
  have a24 := and_low 24 (by decide) 16777215 (by decide) (S.now + 1) (by omega)
  have a16 := and_low 16 (by decide) 65535 (by decide) (S.now + 1) (by omega)
  have a8 := and_low 8 (by decide) 255 (by decide) (S.now + 1) (by omega)
  have e3 : bits .and .i64 (((S.now : Int) + 1) / 16777216) 255 = (((S.now + 1) / 16777216 % 256 : Nat) : Int) := by have := and255d (S.now + 1) 16777216 (by omega); rw [ec] at this; exact this
  have e2 : bits .and .i64 (((S.now : Int) + 1) / 65536) 255 = (((S.now + 1) / 65536 % 256 : Nat) : Int) := by have := and255d (S.now + 1) 65536 (by omega); rw [ec] at this; exact this
  have e1 : bits .and .i64 (((S.now : Int) + 1) / 256) 255 = (((S.now + 1) / 256 % 256 : Nat) : Int) := by have := and255d (S.now + 1) 256 (by omega); rw [ec] at this; exact this
  rw [p24] at a24
  rw [p16] at a16
  rw [p8] at a8
  rw [ec] at a24 a16 a8
  have b24 : ¬ bits .and .i64 ((S.now : Int) + 1) 16777215 = 0 := by rw [a24]; omega
  have b16 : bits .and .i64 ((S.now : Int) + 1) 65535 = 0 := by rw [a16]; omega
  have c8 : bits .and .i64 ((S.now : Int) + 1) 255 = (((S.now + 1) % 256 : Nat) : Int) := by rw [a8]; omega
  clear a24 a16 a8 p24 p16 p8
  have g3 : (S.now + 1) / 16777216 % 256 < 256 := Nat.mod_lt _ (by decide)
  have g2 : (S.now + 1) / 65536 % 256 < 256 := Nat.mod_lt _ (by decide)
  have g1 : (S.now + 1) / 256 % 256 < 256 := Nat.mod_lt _ (by decide)
  have g0 : (S.now + 1) % 256 < 256 := Nat.mod_lt _ (by decide)
  have now2 : (tickS S).now = S.now + 1 := rfl
  rw [now2] at MO2
  have con2 : Hid (∀ w1 V1, Wh w1 p m V1 (tickS S) → Calls Try.prog 45 #[.pointer (some ⟨p, 0, none⟩), .int .i64 2, .pointer (some ⟨p, 256 + (S.now + 1) / 65536 % 256, none⟩)] w1 (RetW w1 p m V1 (.tuple #[]) (mv2 (tickS S)))) := fun w1 V1 h1 => by
    unfold mv2
    rw [now2]
    exact move_2 w1 p m V1 (tickS S) h1 _ (by omega) (by omega) MO2.out.ok MO2.out.okn MO2.out.ids
  have now1 : (mv2 (tickS S)).now = S.now + 1 := by rw [show (mv2 (tickS S)).now = (tickS S).now from moved_now _ _ _]; rfl
  rw [now1] at MO1
  have con1 : Hid (∀ w1 V1, Wh w1 p m V1 (mv2 (tickS S)) → Calls Try.prog 45 #[.pointer (some ⟨p, 0, none⟩), .int .i64 1, .pointer (some ⟨p, 512 + (S.now + 1) / 256 % 256, none⟩)] w1 (RetW w1 p m V1 (.tuple #[]) (mv1 (mv2 (tickS S))))) := fun w1 V1 h1 => by
    unfold mv1
    rw [now1]
    exact move_1 w1 p m V1 (mv2 (tickS S)) h1 _ (by omega) (by omega) MO1.out.ok MO1.out.okn MO1.out.ids
  have nw1 := now1
  have nowz : (mv1 (mv2 (tickS S))).now = S.now + 1 := by rw [show (mv1 (mv2 (tickS S))).now = (mv2 (tickS S)).now from moved_now _ _ _]; rw [show (mv2 (tickS S)).now = (tickS S).now from moved_now _ _ _]; rfl
  clear now2 MO2 now1 MO1
  have hlast : lastS (mv1 (mv2 (tickS S))) = ⟨(mv1 (mv2 (tickS S))).now, (mv1 (mv2 (tickS S))).next, (mv1 (mv2 (tickS S))).most, (mv1 (mv2 (tickS S))).live, (mv1 (mv2 (tickS S))).due, upd (mv1 (mv2 (tickS S))).slot (768 + (S.now + 1) % 256) [], (mv1 (mv2 (tickS S))).m0 - ((mv1 (mv2 (tickS S))).slot (768 + (S.now + 1) % 256)).length, (mv1 (mv2 (tickS S))).m1, (mv1 (mv2 (tickS S))).m2⟩ := by unfold lastS; rw [nowz]
  have hll : lastL (mv1 (mv2 (tickS S))) = (mv1 (mv2 (tickS S))).slot (768 + (S.now + 1) % 256) := by unfold lastL; rw [nowz]
  rw [hlast, hll]
  clear hlast hll
  clear hn0
  clear hn
  generalize (S.now + 1) / 16777216 % 256 = r3 at *
  generalize (S.now + 1) / 65536 % 256 = r2 at *
  generalize (S.now + 1) / 256 % 256 = r1 at *
  generalize (S.now + 1) % 256 = r0 at *
  generalize hTS : tickS S = TS at *
  generalize mv2 TS = SS2 at *
  generalize mv1 SS2 = SS1 at *
  have NW1 := Lib.hid nw1
  clear nw1
  have NWZ := Lib.hid nowz
  have EC := Lib.hid ec
  have HTS := Lib.hid hTS
  clear nowz ec hTS
  go_enter Try.func32, Try.ntmps32
  go_upto_region 2 with (fail)
  have H1 : Hid (Wh (w.setCell ⟨p, 1030, none⟩ (.int .i64 ((S.now : Int) + 1))) p m (updV V 1030 (.int .i64 ((S.now : Int) + 1))) TS) :=
    HTS.out ▸ H.out.num (S' := tickS S) (by unfold isSlot; omega) (.int .i64 ((S.now : Int) + 1)) rfl rfl rfl (by rw [updV_other _ _ (by decide), H.out.c0]; rfl) (by rw [updV_other _ _ (by decide), H.out.c1]; rfl) (by rw [updV_other _ _ (by decide), H.out.c2]; rfl)
      (by rw [updV_other _ _ (by decide), H.out.map]) (by rw [updV_other _ _ (by decide), H.out.most]; rfl) (by rw [updV_self]; rfl) (by rw [updV_other _ _ (by decide), H.out.next]; rfl)
  have T1 := Lib.hid (Step.num H.out (j := 1030) (by unfold isSlot; omega) (.int .i64 ((S.now : Int) + 1)))
  clear k0 f0
  generalize w.setCell ⟨p, 1030, none⟩ (.int .i64 ((S.now : Int) + 1)) = w1 at *
  generalize updV V 1030 (.int .i64 ((S.now : Int) + 1)) = V1 at *
  have k0 : w1.cell? ⟨p, 1030, none⟩ = some (.int .i64 ((S.now : Int) + 1)) := by rw [H1.out.row.cell (by omega), H1.out.now, ← HTS.out]; rfl
  go_wp2_with fail
  refine (con2.out w1 V1 H1.out).mono ?_
  rintro e x2 ⟨rfl, U2, hw, hs⟩
  have Hx2 := Lib.hid hw
  have Tx2 := Lib.hid (T1.out.trans hs)
  have kn2 : x2.cell? ⟨p, 1030, none⟩ = some (.int .i64 ((S.now : Int) + 1)) := by rw [hw.row.cell (by omega), hw.now, NW1.out, EC.out]
  clear hw hs con2 k0
  go_wp2_with fail
  refine (con1.out x2 U2 Hx2.out).mono ?_
  rintro e x1 ⟨rfl, U1, hw, hs⟩
  have Hx1 := Lib.hid hw
  have Tx1 := Lib.hid (Tx2.out.trans hs)
  have kn1 : x1.cell? ⟨p, 1030, none⟩ = some (.int .i64 ((S.now : Int) + 1)) := by rw [hw.row.cell (by omega), hw.now, NWZ.out, EC.out]
  clear hw hs con1 kn2
  go_wp2_with fail
  have sl := Hx1.out.sl (768 + r0) (by unfold isSlot; omega)
  rw [lst_slot _ (by omega)] at sl
  have b3 := OKL.out.len (768 + r0) (by omega)
  have b4 := OKL.out.m0
  obtain ⟨A, c, hU⟩ : ∃ A c, U1 (768 + r0) = .slice A (SS1.slot (768 + r0)).length c := by
    rcases sl_cases sl with ⟨h1, h2⟩ | ⟨g, c, h1⟩
    · exact ⟨none, 0, by rw [h1, h2]; rfl⟩
    · exact ⟨_, c, h1⟩
  have kJ : x1.cell? ⟨p, 768 + r0, none⟩ = some (.slice A (SS1.slot (768 + r0)).length c) := by rw [Hx1.out.row.cell (by omega), hU]
  have HU := Lib.hid hU
  rw [hU] at sl
  have SL := Lib.hid sl
  clear sl hU
  go_quiet (fail)
  have HY := Lib.hid (Hx1.out.drewN nq)
  have TY : Hid (Step p m w V (x1.drewN nq) U1) := ⟨Tx1.out.keep.drewN nq, Tx1.out.sub⟩
  have SLY : Hid (Sl (x1.drewN nq) (.slice A (SS1.slot (768 + r0)).length c) (SS1.slot (768 + r0))) := SL.out.of_block (fun _ _ => rfl)
  clear kn1 kJ SL Hx1 Tx1
  generalize x1.drewN nq = Y at *
  have kn : Y.cell? ⟨p, 1030, none⟩ = some (.int .i64 ((S.now : Int) + 1)) := by rw [HY.out.row.cell (by omega), HY.out.now, NWZ.out, EC.out]
  have kJ : Y.cell? ⟨p, 768 + r0, none⟩ = some (.slice A (SS1.slot (768 + r0)).length c) := by rw [HY.out.row.cell (by omega), HU.out]
  have fr := HY.out.row.free
  go_wp2
  have gi : (r0 : Int) < 256 := by omega
  go_still_tail 9, (by kernel_rfl)
  change wpList _ _ _ _ _ Y.drew
  go_upto_region 11 with (fail)
  have fin := Lib.hid (HY.out.slot (j := 768 + r0) (by unfold isSlot; omega) (.slice none 0 0) [] (w1 := Y) (S' := { SS1 with slot := upd SS1.slot (768 + r0) [] }) (⟨rfl, rfl, rfl, Nat.le_refl _, fun _ _ _ => rfl⟩ : Y.grownBy Y _) (Sl.nil Y) (fun g hg => by simp [Value.ownBlock] at hg)
      (by rw [lst_slot _ (by omega)]; simp [upd]) (fun i hi hne => by unfold lst; simp only [upd]; rw [if_neg hne]) rfl rfl rfl rfl rfl rfl rfl)
  have HZ : Hid (Wh (Y.setCell ⟨p, 768 + r0, none⟩ (.slice none 0 0)).drew p m (updV U1 (768 + r0) (.slice none 0 0)) { SS1 with slot := upd SS1.slot (768 + r0) [] }) := fin.out.1.drew
  have TZ : Hid (Step p m w V (Y.setCell ⟨p, 768 + r0, none⟩ (.slice none 0 0)).drew (updV U1 (768 + r0) (.slice none 0 0))) := TY.out.trans ⟨fin.out.2.keep.drew, fin.out.2.sub⟩
  have OW : Hid (∀ g, (Value.slice A (SS1.slot (768 + r0)).length c).ownBlock = some g → g ≠ p ∧ ¬ foot p m (updV U1 (768 + r0) (.slice none 0 0)) g ∧ (foot p m V g ∨ w.heap.size ≤ g)) := fun g hg => by
    have hgo : (U1 (768 + r0)).ownBlock = some g := by rw [HU.out]; exact hg
    have ap := HY.out.apart (j := 768 + r0) (by unfold isSlot; omega) hgo
    refine ⟨ap.1, ?_, TY.out.sub g (.inr (.inr ⟨_, by unfold isSlot; omega, hgo⟩))⟩
    rintro (h1 | h1 | ⟨i, hi, hi2⟩)
    · exact ap.1 h1
    · exact ap.2 h1
    · by_cases ei : i = 768 + r0
      · subst ei; rw [updV_self] at hi2; simp [Value.ownBlock] at hi2
      · rw [updV_other _ _ ei] at hi2; exact ei (HY.out.inj i _ g hi (by unfold isSlot; omega) hi2 hgo)
  have SLZ : Hid (Sl (Y.setCell ⟨p, 768 + r0, none⟩ (.slice none 0 0)).drew (.slice A (SS1.slot (768 + r0)).length c) (SS1.slot (768 + r0))) := SLY.out.of_block (fun g hg => Below.heap_setCell Y _ _ _ (OW.out g hg).1)
  clear fin kn kJ fr SLY HU
  generalize (Y.setCell ⟨p, 768 + r0, none⟩ (.slice none 0 0)).drew = Z at *
  generalize updV U1 (768 + r0) (.slice none 0 0) = VZ at *
  have km : Z.cell? ⟨p, 1024, none⟩ = some (.int .i64 SS1.m0) := by rw [HZ.out.row.cell (by omega), HZ.out.c0]
  have fr := HZ.out.row.free
  have wr0 : IntKind.i64.wrap (SS1.m0 - (SS1.slot (768 + r0)).length) = SS1.m0 - (SS1.slot (768 + r0)).length := wrap_ok (by omega) (by omega)
  go_still_tail 11, (by kernel_rfl)
  change wpList _ _ _ _ _ Z.drew
  go_wp2_with fail
  go_ret
  have HF := HZ.out.num (S' := ⟨SS1.now, SS1.next, SS1.most, SS1.live, SS1.due, upd SS1.slot (768 + r0) [], SS1.m0 - (SS1.slot (768 + r0)).length, SS1.m1, SS1.m2⟩) (j := 1024) (by unfold isSlot; omega) (.int .i64 (SS1.m0 - (SS1.slot (768 + r0)).length)) rfl rfl rfl (updV_self _ _ _) (by rw [updV_other _ _ (by decide), HZ.out.c1]) (by rw [updV_other _ _ (by decide), HZ.out.c2])
      (by rw [updV_other _ _ (by decide), HZ.out.map]) (by rw [updV_other _ _ (by decide), HZ.out.most]) (by rw [updV_other _ _ (by decide), HZ.out.now]) (by rw [updV_other _ _ (by decide), HZ.out.next])
  have TF := Step.num HZ.out (j := 1024) (by unfold isSlot; omega) (.int .i64 (SS1.m0 - (SS1.slot (768 + r0)).length))
  have T9 := TZ.out.trans TF
  refine ⟨_, _, rfl, HF.drew, ⟨T9.keep.drew, T9.sub⟩, SLZ.out.of_block (fun g hg => Below.heap_setCell Z _ _ _ (OW.out g hg).1), fun g hg => ⟨fun hf => (OW.out g hg).2.1 ((foot_updV (by unfold isSlot; omega) _).1 hf), (OW.out g hg).2.2⟩⟩

set_option maxHeartbeats 1000000 in
set_option maxRecDepth 100000 in
theorem one_C (w : World) (p m : Nat) (V : Nat → Value) (S : WS) (h : Wh w p m V S) (hn0 : ¬ (S.now + 1) % 65536 = 0) (hn : (S.now + 1) % 256 = 0) (hb : S.now < 1000000000000) (mo1 : MOk (tickS S) 1 (512 + (tickS S).now / 256 % 256)) (okl : Ok (mv1 (tickS S))) :
    Calls Try.prog 32 #[.pointer (some ⟨p, 0, none⟩)] w (RetOne w p m V (lastS (mv1 (tickS S))) (lastL (mv1 (tickS S)))) := by
  have k0 : w.cell? ⟨p, 1030, none⟩ = some (.int .i64 S.now) := by rw [h.row.cell (by omega), h.now]
  have f0 := h.row.free
  have H := Lib.hid h
  have OKL := Lib.hid okl
  have MO1 := Lib.hid mo1
  clear h okl mo1
  have ec : ((S.now + 1 : Nat) : Int) = (S.now : Int) + 1 := by omega
  have p24 : (2 : Int) ^ 24 = 16777216 := by decide
  have p16 : (2 : Int) ^ 16 = 65536 := by decide
  have p8 : (2 : Int) ^ 8 = 256 := by decide
  have a24 := and_low 24 (by decide) 16777215 (by decide) (S.now + 1) (by omega)
  have a16 := and_low 16 (by decide) 65535 (by decide) (S.now + 1) (by omega)
  have a8 := and_low 8 (by decide) 255 (by decide) (S.now + 1) (by omega)
  have e3 : bits .and .i64 (((S.now : Int) + 1) / 16777216) 255 = (((S.now + 1) / 16777216 % 256 : Nat) : Int) := by have := and255d (S.now + 1) 16777216 (by omega); rw [ec] at this; exact this
  have e2 : bits .and .i64 (((S.now : Int) + 1) / 65536) 255 = (((S.now + 1) / 65536 % 256 : Nat) : Int) := by have := and255d (S.now + 1) 65536 (by omega); rw [ec] at this; exact this
  have e1 : bits .and .i64 (((S.now : Int) + 1) / 256) 255 = (((S.now + 1) / 256 % 256 : Nat) : Int) := by have := and255d (S.now + 1) 256 (by omega); rw [ec] at this; exact this
  rw [p24] at a24
  rw [p16] at a16
  rw [p8] at a8
  rw [ec] at a24 a16 a8
  have b24 : ¬ bits .and .i64 ((S.now : Int) + 1) 16777215 = 0 := by rw [a24]; omega
  have b16 : ¬ bits .and .i64 ((S.now : Int) + 1) 65535 = 0 := by rw [a16]; omega
  have b8 : bits .and .i64 ((S.now : Int) + 1) 255 = 0 := by rw [a8]; omega
  clear a24 a16 a8 p24 p16 p8
  have g3 : (S.now + 1) / 16777216 % 256 < 256 := Nat.mod_lt _ (by decide)
  have g2 : (S.now + 1) / 65536 % 256 < 256 := Nat.mod_lt _ (by decide)
  have g1 : (S.now + 1) / 256 % 256 < 256 := Nat.mod_lt _ (by decide)
  have hz : 768 + (S.now + 1) % 256 = 768 := by omega
  have now1 : (tickS S).now = S.now + 1 := rfl
  rw [now1] at MO1
  have con1 : Hid (∀ w1 V1, Wh w1 p m V1 (tickS S) → Calls Try.prog 45 #[.pointer (some ⟨p, 0, none⟩), .int .i64 1, .pointer (some ⟨p, 512 + (S.now + 1) / 256 % 256, none⟩)] w1 (RetW w1 p m V1 (.tuple #[]) (mv1 (tickS S)))) := fun w1 V1 h1 => by
    unfold mv1
    rw [now1]
    exact move_1 w1 p m V1 (tickS S) h1 _ (by omega) (by omega) MO1.out.ok MO1.out.okn MO1.out.ids
  have nowz : (mv1 (tickS S)).now = S.now + 1 := by rw [show (mv1 (tickS S)).now = (tickS S).now from moved_now _ _ _]; rfl
  clear now1 MO1
  have hlast : lastS (mv1 (tickS S)) = ⟨(mv1 (tickS S)).now, (mv1 (tickS S)).next, (mv1 (tickS S)).most, (mv1 (tickS S)).live, (mv1 (tickS S)).due, upd (mv1 (tickS S)).slot (768) [], (mv1 (tickS S)).m0 - ((mv1 (tickS S)).slot (768)).length, (mv1 (tickS S)).m1, (mv1 (tickS S)).m2⟩ := by unfold lastS; rw [nowz, hz]
  have hll : lastL (mv1 (tickS S)) = (mv1 (tickS S)).slot (768) := by unfold lastL; rw [nowz, hz]
  rw [hlast, hll]
  clear hlast hll hz
  clear hn0
  clear hn
  generalize (S.now + 1) / 16777216 % 256 = r3 at *
  generalize (S.now + 1) / 65536 % 256 = r2 at *
  generalize (S.now + 1) / 256 % 256 = r1 at *
  generalize hTS : tickS S = TS at *
  generalize mv1 TS = SS1 at *
  have NWZ := Lib.hid nowz
  have EC := Lib.hid ec
  have HTS := Lib.hid hTS
  clear nowz ec hTS
  go_enter Try.func32, Try.ntmps32
  go_upto_region 2 with (fail)
  have H1 : Hid (Wh (w.setCell ⟨p, 1030, none⟩ (.int .i64 ((S.now : Int) + 1))) p m (updV V 1030 (.int .i64 ((S.now : Int) + 1))) TS) :=
    HTS.out ▸ H.out.num (S' := tickS S) (by unfold isSlot; omega) (.int .i64 ((S.now : Int) + 1)) rfl rfl rfl (by rw [updV_other _ _ (by decide), H.out.c0]; rfl) (by rw [updV_other _ _ (by decide), H.out.c1]; rfl) (by rw [updV_other _ _ (by decide), H.out.c2]; rfl)
      (by rw [updV_other _ _ (by decide), H.out.map]) (by rw [updV_other _ _ (by decide), H.out.most]; rfl) (by rw [updV_self]; rfl) (by rw [updV_other _ _ (by decide), H.out.next]; rfl)
  have T1 := Lib.hid (Step.num H.out (j := 1030) (by unfold isSlot; omega) (.int .i64 ((S.now : Int) + 1)))
  clear k0 f0
  generalize w.setCell ⟨p, 1030, none⟩ (.int .i64 ((S.now : Int) + 1)) = w1 at *
  generalize updV V 1030 (.int .i64 ((S.now : Int) + 1)) = V1 at *
  have k0 : w1.cell? ⟨p, 1030, none⟩ = some (.int .i64 ((S.now : Int) + 1)) := by rw [H1.out.row.cell (by omega), H1.out.now, ← HTS.out]; rfl
  go_wp2_with fail
  refine (con1.out w1 V1 H1.out).mono ?_
  rintro e x1 ⟨rfl, U1, hw, hs⟩
  have Hx1 := Lib.hid hw
  have Tx1 := Lib.hid (T1.out.trans hs)
  have kn1 : x1.cell? ⟨p, 1030, none⟩ = some (.int .i64 ((S.now : Int) + 1)) := by rw [hw.row.cell (by omega), hw.now, NWZ.out, EC.out]
  clear hw hs con1 k0
  go_wp2_with fail
  have sl := Hx1.out.sl (768) (by unfold isSlot; omega)
  rw [lst_slot _ (by omega)] at sl
  have b3 := OKL.out.len (768) (by omega)
  have b4 := OKL.out.m0
  obtain ⟨A, c, hU⟩ : ∃ A c, U1 (768) = .slice A (SS1.slot (768)).length c := by
    rcases sl_cases sl with ⟨h1, h2⟩ | ⟨g, c, h1⟩
    · exact ⟨none, 0, by rw [h1, h2]; rfl⟩
    · exact ⟨_, c, h1⟩
  have kJ : x1.cell? ⟨p, 768, none⟩ = some (.slice A (SS1.slot (768)).length c) := by rw [Hx1.out.row.cell (by omega), hU]
  have HU := Lib.hid hU
  rw [hU] at sl
  have SL := Lib.hid sl
  clear sl hU
  go_quiet (fail)
  have HY := Lib.hid (Hx1.out.drewN nq)
  have TY : Hid (Step p m w V (x1.drewN nq) U1) := ⟨Tx1.out.keep.drewN nq, Tx1.out.sub⟩
  have SLY : Hid (Sl (x1.drewN nq) (.slice A (SS1.slot (768)).length c) (SS1.slot (768))) := SL.out.of_block (fun _ _ => rfl)
  clear kn1 kJ SL Hx1 Tx1
  generalize x1.drewN nq = Y at *
  have kn : Y.cell? ⟨p, 1030, none⟩ = some (.int .i64 ((S.now : Int) + 1)) := by rw [HY.out.row.cell (by omega), HY.out.now, NWZ.out, EC.out]
  have kJ : Y.cell? ⟨p, 768, none⟩ = some (.slice A (SS1.slot (768)).length c) := by rw [HY.out.row.cell (by omega), HU.out]
  have fr := HY.out.row.free
  go_wp2
  go_still_tail 9, (by kernel_rfl)
  change wpList _ _ _ _ _ Y.drew
  go_upto_region 11 with (fail)
  have fin := Lib.hid (HY.out.slot (j := 768) (by unfold isSlot; omega) (.slice none 0 0) [] (w1 := Y) (S' := { SS1 with slot := upd SS1.slot (768) [] }) (⟨rfl, rfl, rfl, Nat.le_refl _, fun _ _ _ => rfl⟩ : Y.grownBy Y _) (Sl.nil Y) (fun g hg => by simp [Value.ownBlock] at hg)
      (by rw [lst_slot _ (by omega)]; simp [upd]) (fun i hi hne => by unfold lst; simp only [upd]; rw [if_neg hne]) rfl rfl rfl rfl rfl rfl rfl)
  have HZ : Hid (Wh (Y.setCell ⟨p, 768, none⟩ (.slice none 0 0)).drew p m (updV U1 (768) (.slice none 0 0)) { SS1 with slot := upd SS1.slot (768) [] }) := fin.out.1.drew
  have TZ : Hid (Step p m w V (Y.setCell ⟨p, 768, none⟩ (.slice none 0 0)).drew (updV U1 (768) (.slice none 0 0))) := TY.out.trans ⟨fin.out.2.keep.drew, fin.out.2.sub⟩
  have OW : Hid (∀ g, (Value.slice A (SS1.slot (768)).length c).ownBlock = some g → g ≠ p ∧ ¬ foot p m (updV U1 (768) (.slice none 0 0)) g ∧ (foot p m V g ∨ w.heap.size ≤ g)) := fun g hg => by
    have hgo : (U1 (768)).ownBlock = some g := by rw [HU.out]; exact hg
    have ap := HY.out.apart (j := 768) (by unfold isSlot; omega) hgo
    refine ⟨ap.1, ?_, TY.out.sub g (.inr (.inr ⟨_, by unfold isSlot; omega, hgo⟩))⟩
    rintro (h1 | h1 | ⟨i, hi, hi2⟩)
    · exact ap.1 h1
    · exact ap.2 h1
    · by_cases ei : i = 768
      · subst ei; rw [updV_self] at hi2; simp [Value.ownBlock] at hi2
      · rw [updV_other _ _ ei] at hi2; exact ei (HY.out.inj i _ g hi (by unfold isSlot; omega) hi2 hgo)
  have SLZ : Hid (Sl (Y.setCell ⟨p, 768, none⟩ (.slice none 0 0)).drew (.slice A (SS1.slot (768)).length c) (SS1.slot (768))) := SLY.out.of_block (fun g hg => Below.heap_setCell Y _ _ _ (OW.out g hg).1)
  clear fin kn kJ fr SLY HU
  generalize (Y.setCell ⟨p, 768, none⟩ (.slice none 0 0)).drew = Z at *
  generalize updV U1 (768) (.slice none 0 0) = VZ at *
  have km : Z.cell? ⟨p, 1024, none⟩ = some (.int .i64 SS1.m0) := by rw [HZ.out.row.cell (by omega), HZ.out.c0]
  have fr := HZ.out.row.free
  have wr0 : IntKind.i64.wrap (SS1.m0 - (SS1.slot (768)).length) = SS1.m0 - (SS1.slot (768)).length := wrap_ok (by omega) (by omega)
  go_still_tail 11, (by kernel_rfl)
  change wpList _ _ _ _ _ Z.drew
  go_wp2_with fail
  go_ret
  have HF := HZ.out.num (S' := ⟨SS1.now, SS1.next, SS1.most, SS1.live, SS1.due, upd SS1.slot (768) [], SS1.m0 - (SS1.slot (768)).length, SS1.m1, SS1.m2⟩) (j := 1024) (by unfold isSlot; omega) (.int .i64 (SS1.m0 - (SS1.slot (768)).length)) rfl rfl rfl (updV_self _ _ _) (by rw [updV_other _ _ (by decide), HZ.out.c1]) (by rw [updV_other _ _ (by decide), HZ.out.c2])
      (by rw [updV_other _ _ (by decide), HZ.out.map]) (by rw [updV_other _ _ (by decide), HZ.out.most]) (by rw [updV_other _ _ (by decide), HZ.out.now]) (by rw [updV_other _ _ (by decide), HZ.out.next])
  have TF := Step.num HZ.out (j := 1024) (by unfold isSlot; omega) (.int .i64 (SS1.m0 - (SS1.slot (768)).length))
  have T9 := TZ.out.trans TF
  refine ⟨_, _, rfl, HF.drew, ⟨T9.keep.drew, T9.sub⟩, SLZ.out.of_block (fun g hg => Below.heap_setCell Z _ _ _ (OW.out g hg).1), fun g hg => ⟨fun hf => (OW.out g hg).2.1 ((foot_updV (by unfold isSlot; omega) _).1 hf), (OW.out g hg).2.2⟩⟩

set_option maxHeartbeats 1000000 in
set_option maxRecDepth 100000 in
theorem one_D (w : World) (p m : Nat) (V : Nat → Value) (S : WS) (h : Wh w p m V S) (hn0 : ¬ (S.now + 1) % 256 = 0) (hb : S.now < 1000000000000)  (okl : Ok (tickS S)) :
    Calls Try.prog 32 #[.pointer (some ⟨p, 0, none⟩)] w (RetOne w p m V (lastS (tickS S)) (lastL (tickS S))) := by
  have k0 : w.cell? ⟨p, 1030, none⟩ = some (.int .i64 S.now) := by rw [h.row.cell (by omega), h.now]
  have f0 := h.row.free
  have H := Lib.hid h
  have OKL := Lib.hid okl
  clear h okl 
  have ec : ((S.now + 1 : Nat) : Int) = (S.now : Int) + 1 := by omega
  have p24 : (2 : Int) ^ 24 = 16777216 := by decide
  have p16 : (2 : Int) ^ 16 = 65536 := by decide
  have p8 : (2 : Int) ^ 8 = 256 := by decide
  have a24 := and_low 24 (by decide) 16777215 (by decide) (S.now + 1) (by omega)
  have a16 := and_low 16 (by decide) 65535 (by decide) (S.now + 1) (by omega)
  have a8 := and_low 8 (by decide) 255 (by decide) (S.now + 1) (by omega)
  have e3 : bits .and .i64 (((S.now : Int) + 1) / 16777216) 255 = (((S.now + 1) / 16777216 % 256 : Nat) : Int) := by have := and255d (S.now + 1) 16777216 (by omega); rw [ec] at this; exact this
  have e2 : bits .and .i64 (((S.now : Int) + 1) / 65536) 255 = (((S.now + 1) / 65536 % 256 : Nat) : Int) := by have := and255d (S.now + 1) 65536 (by omega); rw [ec] at this; exact this
  have e1 : bits .and .i64 (((S.now : Int) + 1) / 256) 255 = (((S.now + 1) / 256 % 256 : Nat) : Int) := by have := and255d (S.now + 1) 256 (by omega); rw [ec] at this; exact this
  rw [p24] at a24
  rw [p16] at a16
  rw [p8] at a8
  rw [ec] at a24 a16 a8
  have b24 : ¬ bits .and .i64 ((S.now : Int) + 1) 16777215 = 0 := by rw [a24]; omega
  have b16 : ¬ bits .and .i64 ((S.now : Int) + 1) 65535 = 0 := by rw [a16]; omega
  have c8 : bits .and .i64 ((S.now : Int) + 1) 255 = (((S.now + 1) % 256 : Nat) : Int) := by rw [a8]; omega
  have b8 : ¬ bits .and .i64 ((S.now : Int) + 1) 255 = 0 := by rw [a8]; omega
  clear a24 a16 a8 p24 p16 p8
  have g3 : (S.now + 1) / 16777216 % 256 < 256 := Nat.mod_lt _ (by decide)
  have g2 : (S.now + 1) / 65536 % 256 < 256 := Nat.mod_lt _ (by decide)
  have g1 : (S.now + 1) / 256 % 256 < 256 := Nat.mod_lt _ (by decide)
  have g0 : (S.now + 1) % 256 < 256 := Nat.mod_lt _ (by decide)
  have nowz : (tickS S).now = S.now + 1 := rfl
  have hlast : lastS (tickS S) = ⟨(tickS S).now, (tickS S).next, (tickS S).most, (tickS S).live, (tickS S).due, upd (tickS S).slot (768 + (S.now + 1) % 256) [], (tickS S).m0 - ((tickS S).slot (768 + (S.now + 1) % 256)).length, (tickS S).m1, (tickS S).m2⟩ := by unfold lastS; rw [nowz]
  have hll : lastL (tickS S) = (tickS S).slot (768 + (S.now + 1) % 256) := by unfold lastL; rw [nowz]
  rw [hlast, hll]
  clear hlast hll
  clear hn0
  generalize (S.now + 1) / 16777216 % 256 = r3 at *
  generalize (S.now + 1) / 65536 % 256 = r2 at *
  generalize (S.now + 1) / 256 % 256 = r1 at *
  generalize (S.now + 1) % 256 = r0 at *
  generalize hTS : tickS S = TS at *
  have NWZ := Lib.hid nowz
  have EC := Lib.hid ec
  have HTS := Lib.hid hTS
  clear nowz ec hTS
  go_enter Try.func32, Try.ntmps32
  go_upto_region 2 with (fail)
  have H1 : Hid (Wh (w.setCell ⟨p, 1030, none⟩ (.int .i64 ((S.now : Int) + 1))) p m (updV V 1030 (.int .i64 ((S.now : Int) + 1))) TS) :=
    HTS.out ▸ H.out.num (S' := tickS S) (by unfold isSlot; omega) (.int .i64 ((S.now : Int) + 1)) rfl rfl rfl (by rw [updV_other _ _ (by decide), H.out.c0]; rfl) (by rw [updV_other _ _ (by decide), H.out.c1]; rfl) (by rw [updV_other _ _ (by decide), H.out.c2]; rfl)
      (by rw [updV_other _ _ (by decide), H.out.map]) (by rw [updV_other _ _ (by decide), H.out.most]; rfl) (by rw [updV_self]; rfl) (by rw [updV_other _ _ (by decide), H.out.next]; rfl)
  have T1 := Lib.hid (Step.num H.out (j := 1030) (by unfold isSlot; omega) (.int .i64 ((S.now : Int) + 1)))
  clear k0 f0
  generalize w.setCell ⟨p, 1030, none⟩ (.int .i64 ((S.now : Int) + 1)) = w1 at *
  generalize updV V 1030 (.int .i64 ((S.now : Int) + 1)) = V1 at *
  have k0 : w1.cell? ⟨p, 1030, none⟩ = some (.int .i64 ((S.now : Int) + 1)) := by rw [H1.out.row.cell (by omega), H1.out.now, ← HTS.out]; rfl
  go_wp2_with fail
  have sl := H1.out.sl (768 + r0) (by unfold isSlot; omega)
  rw [lst_slot _ (by omega)] at sl
  have b3 := OKL.out.len (768 + r0) (by omega)
  have b4 := OKL.out.m0
  obtain ⟨A, c, hU⟩ : ∃ A c, V1 (768 + r0) = .slice A (TS.slot (768 + r0)).length c := by
    rcases sl_cases sl with ⟨h1, h2⟩ | ⟨g, c, h1⟩
    · exact ⟨none, 0, by rw [h1, h2]; rfl⟩
    · exact ⟨_, c, h1⟩
  have kJ : w1.cell? ⟨p, 768 + r0, none⟩ = some (.slice A (TS.slot (768 + r0)).length c) := by rw [H1.out.row.cell (by omega), hU]
  have HU := Lib.hid hU
  rw [hU] at sl
  have SL := Lib.hid sl
  clear sl hU
  go_quiet (fail)
  have HY := Lib.hid (H1.out.drewN nq)
  have TY : Hid (Step p m w V (w1.drewN nq) V1) := ⟨T1.out.keep.drewN nq, T1.out.sub⟩
  have SLY : Hid (Sl (w1.drewN nq) (.slice A (TS.slot (768 + r0)).length c) (TS.slot (768 + r0))) := SL.out.of_block (fun _ _ => rfl)
  clear k0 kJ SL H1 T1
  generalize w1.drewN nq = Y at *
  have kn : Y.cell? ⟨p, 1030, none⟩ = some (.int .i64 ((S.now : Int) + 1)) := by rw [HY.out.row.cell (by omega), HY.out.now, NWZ.out, EC.out]
  have kJ : Y.cell? ⟨p, 768 + r0, none⟩ = some (.slice A (TS.slot (768 + r0)).length c) := by rw [HY.out.row.cell (by omega), HU.out]
  have fr := HY.out.row.free
  go_wp2
  have gi : (r0 : Int) < 256 := by omega
  go_still_tail 9, (by kernel_rfl)
  change wpList _ _ _ _ _ Y.drew
  go_upto_region 11 with (fail)
  have fin := Lib.hid (HY.out.slot (j := 768 + r0) (by unfold isSlot; omega) (.slice none 0 0) [] (w1 := Y) (S' := { TS with slot := upd TS.slot (768 + r0) [] }) (⟨rfl, rfl, rfl, Nat.le_refl _, fun _ _ _ => rfl⟩ : Y.grownBy Y _) (Sl.nil Y) (fun g hg => by simp [Value.ownBlock] at hg)
      (by rw [lst_slot _ (by omega)]; simp [upd]) (fun i hi hne => by unfold lst; simp only [upd]; rw [if_neg hne]) rfl rfl rfl rfl rfl rfl rfl)
  have HZ : Hid (Wh (Y.setCell ⟨p, 768 + r0, none⟩ (.slice none 0 0)).drew p m (updV V1 (768 + r0) (.slice none 0 0)) { TS with slot := upd TS.slot (768 + r0) [] }) := fin.out.1.drew
  have TZ : Hid (Step p m w V (Y.setCell ⟨p, 768 + r0, none⟩ (.slice none 0 0)).drew (updV V1 (768 + r0) (.slice none 0 0))) := TY.out.trans ⟨fin.out.2.keep.drew, fin.out.2.sub⟩
  have OW : Hid (∀ g, (Value.slice A (TS.slot (768 + r0)).length c).ownBlock = some g → g ≠ p ∧ ¬ foot p m (updV V1 (768 + r0) (.slice none 0 0)) g ∧ (foot p m V g ∨ w.heap.size ≤ g)) := fun g hg => by
    have hgo : (V1 (768 + r0)).ownBlock = some g := by rw [HU.out]; exact hg
    have ap := HY.out.apart (j := 768 + r0) (by unfold isSlot; omega) hgo
    refine ⟨ap.1, ?_, TY.out.sub g (.inr (.inr ⟨_, by unfold isSlot; omega, hgo⟩))⟩
    rintro (h1 | h1 | ⟨i, hi, hi2⟩)
    · exact ap.1 h1
    · exact ap.2 h1
    · by_cases ei : i = 768 + r0
      · subst ei; rw [updV_self] at hi2; simp [Value.ownBlock] at hi2
      · rw [updV_other _ _ ei] at hi2; exact ei (HY.out.inj i _ g hi (by unfold isSlot; omega) hi2 hgo)
  have SLZ : Hid (Sl (Y.setCell ⟨p, 768 + r0, none⟩ (.slice none 0 0)).drew (.slice A (TS.slot (768 + r0)).length c) (TS.slot (768 + r0))) := SLY.out.of_block (fun g hg => Below.heap_setCell Y _ _ _ (OW.out g hg).1)
  clear fin kn kJ fr SLY HU
  generalize (Y.setCell ⟨p, 768 + r0, none⟩ (.slice none 0 0)).drew = Z at *
  generalize updV V1 (768 + r0) (.slice none 0 0) = VZ at *
  have km : Z.cell? ⟨p, 1024, none⟩ = some (.int .i64 TS.m0) := by rw [HZ.out.row.cell (by omega), HZ.out.c0]
  have fr := HZ.out.row.free
  have wr0 : IntKind.i64.wrap (TS.m0 - (TS.slot (768 + r0)).length) = TS.m0 - (TS.slot (768 + r0)).length := wrap_ok (by omega) (by omega)
  go_still_tail 11, (by kernel_rfl)
  change wpList _ _ _ _ _ Z.drew
  go_wp2_with fail
  go_ret
  have HF := HZ.out.num (S' := ⟨TS.now, TS.next, TS.most, TS.live, TS.due, upd TS.slot (768 + r0) [], TS.m0 - (TS.slot (768 + r0)).length, TS.m1, TS.m2⟩) (j := 1024) (by unfold isSlot; omega) (.int .i64 (TS.m0 - (TS.slot (768 + r0)).length)) rfl rfl rfl (updV_self _ _ _) (by rw [updV_other _ _ (by decide), HZ.out.c1]) (by rw [updV_other _ _ (by decide), HZ.out.c2])
      (by rw [updV_other _ _ (by decide), HZ.out.map]) (by rw [updV_other _ _ (by decide), HZ.out.most]) (by rw [updV_other _ _ (by decide), HZ.out.now]) (by rw [updV_other _ _ (by decide), HZ.out.next])
  have TF := Step.num HZ.out (j := 1024) (by unfold isSlot; omega) (.int .i64 (TS.m0 - (TS.slot (768 + r0)).length))
  have T9 := TZ.out.trans TF
  refine ⟨_, _, rfl, HF.drew, ⟨T9.keep.drew, T9.sub⟩, SLZ.out.of_block (fun g hg => Below.heap_setCell Z _ _ _ (OW.out g hg).1), fun g hg => ⟨fun hf => (OW.out g hg).2.1 ((foot_updV (by unfold isSlot; omega) _).1 hf), (OW.out g hg).2.2⟩⟩

end Go.Proofs.Ytlbdfhbkemikgaa

/- The walk of Tick. -/
import Derived.Test.YtlbdfhbkemikgaaTicksE
set_option linter.unusedVariables false
set_option linter.unusedSimpArgs false
namespace Go.Proofs.Ytlbdfhbkemikgaa
open Go.RowKit Plain

def RetTick (w : World) (p m : Nat) (V : Nat → Value) (S : WS) (N : Nat) (e : Ending) (w' : World) : Prop :=
  ∃ vg V' S', e = .returned vg ∧ Wh w' p m V' S' ∧ After S S' N ∧ Step p m w V w' V' ∧ Sl w' vg (expFrom S.live S.now (N + 1)) ∧ ∀ g, vg.ownBlock = some g → w.heap.size ≤ g ∧ ¬ foot p m V' g

/-- at the head of a round. -/
def TickRel (w : World) (p m q r : Nat) (V : Nat → Value) (S : WS) (N : Nat) (i : Value) (wr : World) : Prop :=
  ∃ (k : Nat) (V' : Nat → Value) (S' : WS) (vg : Value), k ≤ N ∧ i = .int .i64 (k : Int) ∧ After S S' (N - k) ∧ Tk wr p m q r V' S' vg (expFrom S.live S.now (N - k + 1)) ∧ Step p m w V wr V' ∧ ∀ g, vg.ownBlock = some g → w.heap.size ≤ g

set_option maxHeartbeats 1000000 in
set_option maxRecDepth 100000 in
theorem tick_c (w : World) (p m : Nat) (V : Nat → Value) (S : WS) (h : Wh w p m V S) (hr : Rest S) (hn : S.now < 200000000000) (hx : S.next < 200000000000) (n : Int) (N : Nat) (hn0 : 0 < n) (hn1 : n ≤ 9223372036854775807) (hN : min n 1048576 = (N : Int)) :
    Calls Try.prog 11 #[.pointer (some ⟨p, 0, none⟩), .int .i64 n] w (RetTick w p m V S N) := by
  have k0 : w.cell? ⟨p, 1027, none⟩ = some (V 1027) := h.row.cell (by omega)
  have f0 := h.row.free
  have plt := h.row.lt
  have H := Lib.hid h
  have HR := Lib.hid hr
  clear h hr
  have L27 := Lib.hid (HR.out.mid.lens)
  have qn : ¬ foot p m V w.heap.size := fun hf => by have := H.out.foot_lt hf; omega
  have rn : ¬ foot p m V (w.heap.size + 1) := fun hf => by have := H.out.foot_lt hf; omega
  have con := take_c ((w.alloc (.cells #[.pointer (some ⟨p, 0, none⟩)] 23)).alloc (.cells #[.slice none 0 0] 29)) p m w.heap.size (w.heap.size + 1) V S (.slice none 0 0) []
    ⟨(H.out.alloc _).alloc _, (Row.new w 23 _).alloc _, by have := Row.new (w.alloc (.cells #[.pointer (some ⟨p, 0, none⟩)] 23)) 29 #[.slice none 0 0]; simpa using this, Sl.nil _, qn, rn, fun g hg => by simp [Value.ownBlock] at hg⟩
    { S with due := sortL S.due } (HR.out.okl hx) (V 1027) S.due (((H.out.alloc _).alloc _).sl 1027 (.inr rfl)) (by have := L27.out.1; omega) (fun id hid => by have := HR.out.mid.dlt id hid; omega) (by have := L27.out.1; simp; omega)
    (fun g hg => ⟨(H.out.apart (.inr rfl) hg).2, by simp [Value.ownBlock]⟩) (fun w1 h1 h2 => due_sorted ((H.out.alloc _).alloc _) h1 h2)
  have CON := Lib.hid con
  clear con
  go_enter Try.func11, Try.ntmps11
  go_wp2_with fail
  refine CON.out.mono ?_
  rintro e w1 ⟨rfl, vg, htk, hown, hkeep⟩
  rw [show takeT (WS.live { S with due := sortL S.due }) (sortL S.due) = (ids (S.live.filter (fun t => decide (t.id ∈ S.due))), S.live.filter (fun t => decide (t.id ∉ S.due))) from takeT_sort HR.out.mid.inc S.due] at htk
  obtain ⟨haf, hexp⟩ := after_due HR.out
  have TK1 := Lib.hid htk
  have OWN1 : Hid (∀ g, vg.ownBlock = some g → w.heap.size + 2 ≤ g) := fun g hg => (hown g hg).elim (fun h => by simp [Value.ownBlock] at h) (fun h => by simpa using h)
  have K1 : Hid (Keep (foot p m V) w w1) := (((Keep.refl _ w).alloc _).alloc _).trans hkeep (fun k hk hf => by
    rcases hf with h | h | h | h
    · exact h
    · omega
    · simp [Value.ownBlock] at h
    · exact .inr (.inr ⟨1027, .inr rfl, h⟩))
  have AF := Lib.hid haf
  have EX := Lib.hid hexp
  have k1 : w1.cell? ⟨w.heap.size, 0, none⟩ = some (.pointer (some ⟨p, 0, none⟩)) := htk.rq.cell 0
  have k2 : w1.cell? ⟨p, 1027, none⟩ = some (V 1027) := htk.wh.row.cell (by omega)
  have f1 := htk.wh.row.free
  clear htk hown hkeep haf hexp CON
  go_upto_region 5 with (fail)
  have fin := TK1.out.wh.slot (j := 1027) (.inr rfl) (.slice none 0 0) [] (w1 := w1) (S' := dueS S) (⟨rfl, rfl, rfl, Nat.le_refl _, fun _ _ _ => rfl⟩ : w1.grownBy w1 _) (Sl.nil w1) (fun g hg => by simp [Value.ownBlock] at hg)
    (lst_due _) (fun i hi hne => by unfold lst; rw [if_neg hne, if_neg hne]; rfl) rfl rfl rfl rfl rfl rfl rfl
  have TK2 : Hid (Tk (w1.setCell ⟨p, 1027, none⟩ (.slice none 0 0)) p m w.heap.size (w.heap.size + 1) (updV V 1027 (.slice none 0 0)) (dueS S) vg (expFrom S.live S.now 1)) := by
    refine ⟨fin.1, TK1.out.rq.far (by show w.heap.size ≠ p; omega) _, TK1.out.rr.far (by show w.heap.size + 1 ≠ p; omega) _, ?_, fun hf => TK1.out.nq (foot_nil hf), fun hf => TK1.out.nr (foot_nil hf), fun g hg hf => TK1.out.ng g hg (foot_nil hf)⟩
    rw [← EX.out]
    exact TK1.out.sg.of_block (fun g hg => Below.heap_setCell w1 _ _ g (by show g ≠ p; have := OWN1.out g hg; omega))
  have ST2 : Hid (Step p m w V (w1.setCell ⟨p, 1027, none⟩ (.slice none 0 0)) (updV V 1027 (.slice none 0 0))) := ⟨K1.out.setCell (fun _ => .inl rfl) _, fun k hk => .inl (foot_nil hk)⟩
  clear fin TK1 K1 k1 k2 f1 k0 f0 qn rn EX
  generalize w1.setCell ⟨p, 1027, none⟩ (.slice none 0 0) = w2 at *
  generalize updV V 1027 (.slice none 0 0) = V2 at *
  go_wp2
  have NB : N ≤ 1048576 := by omega
  go_loopw [1] (fun i wr => TickRel w p m w.heap.size (w.heap.size + 1) V S N i wr) (fun i _ => (intOf i).toNat)
  case atStart =>
    refine ⟨N, V2, dueS S, vg, Nat.le_refl _, rfl, by rw [Nat.sub_self]; exact AF.out, by rw [Nat.sub_self]; exact TK2.out, ST2.out, fun g hg => by have := OWN1.out g hg; omega⟩
  case round =>
    clear TK2 ST2 AF OWN1 L27
    obtain ⟨k, V3, S3, vg3, hk, rfl, haf, htk, hst, hown⟩ := hrel
    have c0 : wr.cell? ⟨w.heap.size, 0, none⟩ = some (.pointer (some ⟨p, 0, none⟩)) := htk.rq.cell 0
    have c9 : wr.cell? ⟨w.heap.size + 1, 0, none⟩ = some vg3 := htk.rr.cell 0
    by_cases hk0 : 0 < k
    · have conE := Lib.hid (empty_c wr p m V3 S3 htk.wh (by rw [haf.now]; omega))
      have TK3 := Lib.hid htk
      have ST3 := Lib.hid hst
      have AF3 := Lib.hid haf
      have OW3 := Lib.hid hown
      clear htk hst haf hown
      generalize he : spanOf S3 - S3.now % spanOf S3 - 1 = em at *
      go_wp2_with fail
      refine conE.out.mono ?_
      rintro e w4 ⟨rfl, rfl⟩
      obtain ⟨d, hd⟩ : ∃ d : Nat, d = min em (k - 1) := ⟨_, rfl⟩
      have hmin : min (em : Int) ((k : Int) - 1) = (d : Int) := by omega
      have hd1 : d ≤ em := by omega
      have hd2 : d + 1 ≤ k := by omega
      have b3 : S3.now < 200001048576 := by rw [AF3.out.now]; omega
      have c3 : w4.cell? ⟨p, 1030, none⟩ = some (.int .i64 S3.now) := by rw [TK3.out.wh.row.cell (by omega), TK3.out.wh.now]
      have fr := TK3.out.wh.row.free
      have HE := Lib.hid he
      have qr := TK3.out.qr
      have nqp : w.heap.size ≠ p := fun e => TK3.out.nq (.inl e)
      clear he hd conE
      go_upto_region 11 with (fail)
      have hsk := skip_calm AF3.out.calm d (by rw [HE.out]; exact hd1)
      have H5 : Hid (Wh (w4.setCell ⟨p, 1030, none⟩ (.int .i64 ((S3.now : Int) + d))) p m (updV V3 1030 (.int .i64 ((S3.now : Int) + d))) { S3 with now := S3.now + d }) :=
        TK3.out.wh.num (S' := { S3 with now := S3.now + d }) (by unfold isSlot; omega) _ rfl rfl rfl (by rw [updV_other _ _ (by decide), TK3.out.wh.c0]) (by rw [updV_other _ _ (by decide), TK3.out.wh.c1]) (by rw [updV_other _ _ (by decide), TK3.out.wh.c2])
          (by rw [updV_other _ _ (by decide), TK3.out.wh.map]) (by rw [updV_other _ _ (by decide), TK3.out.wh.most]) (by rw [updV_self]; rfl) (by rw [updV_other _ _ (by decide), TK3.out.wh.next])
      have ns : ¬ isSlot 1030 := by unfold isSlot; omega
      have T5 := Step.num TK3.out.wh ns (.int .i64 ((S3.now : Int) + d))
      have TK5 : Hid (Tk (w4.setCell ⟨p, 1030, none⟩ (.int .i64 ((S3.now : Int) + d))) p m w.heap.size (w.heap.size + 1) (updV V3 1030 (.int .i64 ((S3.now : Int) + d))) { S3 with now := S3.now + d } vg3 (expFrom S.live S.now (N - k + 1))) :=
        ⟨H5.out, TK3.out.rq.far nqp _, TK3.out.rr.far (fun e => TK3.out.nr (.inl e)) _, TK3.out.sg.of_block (fun g hg => Below.heap_setCell w4 _ _ g (fun e => TK3.out.ng g hg (.inl e))),
          fun hf => TK3.out.nq ((foot_updV ns _).1 hf), fun hf => TK3.out.nr ((foot_updV ns _).1 hf), fun g hg hf => TK3.out.ng g hg ((foot_updV ns _).1 hf)⟩
      have ST5 := Lib.hid (ST3.out.trans T5)
      have CA := Lib.hid hsk.1
      clear hsk T5 c3 fr c0 c9 TK3 ST3 H5
      generalize w4.setCell ⟨p, 1030, none⟩ (.int .i64 ((S3.now : Int) + d)) = w5 at *
      generalize updV V3 1030 (.int .i64 ((S3.now : Int) + d)) = V5 at *
      have c0 : w5.cell? ⟨w.heap.size, 0, none⟩ = some (.pointer (some ⟨p, 0, none⟩)) := TK5.out.rq.cell 0
      have b5 : S3.next < 200000000000 := by rw [AF3.out.next]; exact hx
      have conO := Lib.hid (one_c w5 p m V5 _ TK5.out.wh CA.out (by show S3.now + d < _; omega) (by show S3.next < _; omega))
      go_wp2_with fail
      refine conO.out.mono ?_
      rintro e w6 ⟨M, hM, okM, v, V6, rfl, hw6, hs6, hv6, ho6⟩
      have q5 : w.heap.size < w5.heap.size := TK5.out.rq.lt
      have r5 : w.heap.size + 1 < w5.heap.size := TK5.out.rr.lt
      have nf : ∀ x, x < w5.heap.size → ¬ foot p m V5 x → ¬ foot p m V6 x := fun x hx hn hf => (hs6.sub x hf).elim hn (fun h => by omega)
      have TK6 : Hid (Tk w6 p m w.heap.size (w.heap.size + 1) V6 (lastS M) vg3 (expFrom S.live S.now (N - k + 1))) :=
        ⟨hw6, TK5.out.rq.keep hs6.keep TK5.out.nq, TK5.out.rr.keep hs6.keep TK5.out.nr, own_keep TK5.out.sg hs6.keep TK5.out.ng, nf _ q5 TK5.out.nq, nf _ r5 TK5.out.nr, fun g hg => nf g (TK5.out.sg.lt hg) (TK5.out.ng g hg)⟩
      have aft := after_step AF3.out (by rw [HE.out]; exact hd1) hM
      have MID := hM.1
      have lx : (lastL M).length ≤ M.next := MID.lens.2 _ (by omega)
      have mx : M.next = S3.next := hM.2.2.1
      have gl := expFrom_le HR.out S.now (N - k + 1)
      have conT := take_c w6 p m w.heap.size (w.heap.size + 1) V6 (lastS M) vg3 (expFrom S.live S.now (N - k + 1)) TK6.out (lastS M) ⟨MID.inc, fun t ht => by have := MID.lt_ t ht; omega⟩ v (lastL M) hv6 (by omega)
        (fun id hid => by have := MID.slt (768 + M.now % 256) (by omega) id hid; omega) (by omega)
        (fun g hg => ⟨fun e => (ho6 g hg).1 (e ▸ .inr (.inl rfl)), fun e => (ho6 g hg).2.elim (TK5.out.ng g e) (fun h => by have := TK5.out.sg.lt e; omega)⟩)
        (fun w7 h1 h2 => hw6.same (fun x hx => h2.block x (hw6.foot_lt hx) (fun e => (ho6 x e.symm).1 hx)))
      rw [show RetTk w6 p m w.heap.size (w.heap.size + 1) V6 (lastS M) vg3 (expFrom S.live S.now (N - k + 1)) v (sortL (lastL M)) = _ from rfl] at conT
      have CONT := Lib.hid conT
      have AFT := Lib.hid aft
      have S6 := Lib.hid hs6
      have O6 := Lib.hid ho6
      have MI := Lib.hid MID
      clear conT aft hs6 ho6 hM okM hw6 hv6 nf conO MID c0
      go_wp2_with fail
      refine CONT.out.mono ?_
      rintro e w7 ⟨rfl, vg7, htk7, hown7, hkeep7⟩
      rw [show takeT (lastS M).live (sortL (lastL M)) = (ids (M.live.filter (fun t => decide (t.id ∈ lastL M))), M.live.filter (fun t => decide (t.id ∉ lastL M))) from takeT_sort MI.out.inc (lastL M)] at htk7
      have ek : N - k + d + 1 = N - (k - d - 1) := by omega
      have A7 := AFT.out
      rw [ek] at A7
      have TK7 : Tk w7 p m w.heap.size (w.heap.size + 1) V6 (doneS M) vg7 (expFrom S.live S.now (N - (k - d - 1) + 1)) := by rw [← A7.2]; exact htk7
      have ST6 := ST5.out.trans S6.out
      have S7 : Step p m w V w7 V6 := ⟨ST6.keep.trans hkeep7 (fun x hx hf => by
        rcases hf with h | h | h | h
        · exact (ST6.sub x h).resolve_right (by omega)
        · omega
        · have := OW3.out x h; omega
        · rcases (O6.out x h).2 with h2 | h2
          · exact (ST5.out.sub x h2).resolve_right (by omega)
          · have := ST5.out.keep.size; omega), ST6.sub⟩
      have OW7 : ∀ g, vg7.ownBlock = some g → w.heap.size ≤ g := fun g hg => (hown7 g hg).elim (OW3.out g) (fun h => Nat.le_trans ST6.keep.size h)
      have A7' := Lib.hid A7.1
      have TK7' := Lib.hid TK7
      have S7' := Lib.hid S7
      have OW7' := Lib.hid OW7
      clear htk7 hkeep7 A7 TK7 S7 OW7 ST6 hown7
      go_wp2_with fail
      refine ⟨⟨k - d - 1, V6, doneS M, vg7, by omega, ?_, A7'.out, TK7'.out, S7'.out, OW7'.out⟩, ?_⟩
      · exact congrArg (Value.int .i64) (by omega)
      · simp [intOf]; omega
    · obtain rfl : k = 0 := by omega
      have hfin : RetTick w p m V S N (.returned vg3) wr := ⟨vg3, V3, S3, rfl, htk.wh, haf, hst, htk.sg, fun g hg => ⟨hown g hg, htk.ng g hg⟩⟩
      have HF := Lib.hid hfin
      clear haf htk hst hown hfin
      go_wp2
      go_ret
      exact HF.out
set_option maxHeartbeats 1000000 in
set_option maxRecDepth 100000 in
theorem tick_0 (w : World) (p m : Nat) (V : Nat → Value) (S : WS) (h : Wh w p m V S) (hr : Rest S) (hn : S.now < 200000000000) (hx : S.next < 200000000000) (n : Int) (hn0 : n ≤ 0) (hn1 : -9223372036854775808 ≤ n) :
    Calls Try.prog 11 #[.pointer (some ⟨p, 0, none⟩), .int .i64 n] w (RetTick w p m V S 0) := by
  have k0 : w.cell? ⟨p, 1027, none⟩ = some (V 1027) := h.row.cell (by omega)
  have f0 := h.row.free
  have plt := h.row.lt
  have H := Lib.hid h
  have HR := Lib.hid hr
  clear h hr
  have L27 := Lib.hid (HR.out.mid.lens)
  have qn : ¬ foot p m V w.heap.size := fun hf => by have := H.out.foot_lt hf; omega
  have rn : ¬ foot p m V (w.heap.size + 1) := fun hf => by have := H.out.foot_lt hf; omega
  have con := take_c ((w.alloc (.cells #[.pointer (some ⟨p, 0, none⟩)] 23)).alloc (.cells #[.slice none 0 0] 29)) p m w.heap.size (w.heap.size + 1) V S (.slice none 0 0) []
    ⟨(H.out.alloc _).alloc _, (Row.new w 23 _).alloc _, by have := Row.new (w.alloc (.cells #[.pointer (some ⟨p, 0, none⟩)] 23)) 29 #[.slice none 0 0]; simpa using this, Sl.nil _, qn, rn, fun g hg => by simp [Value.ownBlock] at hg⟩
    { S with due := sortL S.due } (HR.out.okl hx) (V 1027) S.due (((H.out.alloc _).alloc _).sl 1027 (.inr rfl)) (by have := L27.out.1; omega) (fun id hid => by have := HR.out.mid.dlt id hid; omega) (by have := L27.out.1; simp; omega)
    (fun g hg => ⟨(H.out.apart (.inr rfl) hg).2, by simp [Value.ownBlock]⟩) (fun w1 h1 h2 => due_sorted ((H.out.alloc _).alloc _) h1 h2)
  have CON := Lib.hid con
  clear con
  go_enter Try.func11, Try.ntmps11
  go_wp2_with fail
  refine CON.out.mono ?_
  rintro e w1 ⟨rfl, vg, htk, hown, hkeep⟩
  rw [show takeT (WS.live { S with due := sortL S.due }) (sortL S.due) = (ids (S.live.filter (fun t => decide (t.id ∈ S.due))), S.live.filter (fun t => decide (t.id ∉ S.due))) from takeT_sort HR.out.mid.inc S.due] at htk
  obtain ⟨haf, hexp⟩ := after_due HR.out
  have TK1 := Lib.hid htk
  have OWN1 : Hid (∀ g, vg.ownBlock = some g → w.heap.size + 2 ≤ g) := fun g hg => (hown g hg).elim (fun h => by simp [Value.ownBlock] at h) (fun h => by simpa using h)
  have K1 : Hid (Keep (foot p m V) w w1) := (((Keep.refl _ w).alloc _).alloc _).trans hkeep (fun k hk hf => by
    rcases hf with h | h | h | h
    · exact h
    · omega
    · simp [Value.ownBlock] at h
    · exact .inr (.inr ⟨1027, .inr rfl, h⟩))
  have AF := Lib.hid haf
  have EX := Lib.hid hexp
  have k1 : w1.cell? ⟨w.heap.size, 0, none⟩ = some (.pointer (some ⟨p, 0, none⟩)) := htk.rq.cell 0
  have k2 : w1.cell? ⟨p, 1027, none⟩ = some (V 1027) := htk.wh.row.cell (by omega)
  have f1 := htk.wh.row.free
  clear htk hown hkeep haf hexp CON
  go_upto_region 5 with (fail)
  have fin := TK1.out.wh.slot (j := 1027) (.inr rfl) (.slice none 0 0) [] (w1 := w1) (S' := dueS S) (⟨rfl, rfl, rfl, Nat.le_refl _, fun _ _ _ => rfl⟩ : w1.grownBy w1 _) (Sl.nil w1) (fun g hg => by simp [Value.ownBlock] at hg)
    (lst_due _) (fun i hi hne => by unfold lst; rw [if_neg hne, if_neg hne]; rfl) rfl rfl rfl rfl rfl rfl rfl
  have TK2 : Hid (Tk (w1.setCell ⟨p, 1027, none⟩ (.slice none 0 0)) p m w.heap.size (w.heap.size + 1) (updV V 1027 (.slice none 0 0)) (dueS S) vg (expFrom S.live S.now 1)) := by
    refine ⟨fin.1, TK1.out.rq.far (by show w.heap.size ≠ p; omega) _, TK1.out.rr.far (by show w.heap.size + 1 ≠ p; omega) _, ?_, fun hf => TK1.out.nq (foot_nil hf), fun hf => TK1.out.nr (foot_nil hf), fun g hg hf => TK1.out.ng g hg (foot_nil hf)⟩
    rw [← EX.out]
    exact TK1.out.sg.of_block (fun g hg => Below.heap_setCell w1 _ _ g (by show g ≠ p; have := OWN1.out g hg; omega))
  have ST2 : Hid (Step p m w V (w1.setCell ⟨p, 1027, none⟩ (.slice none 0 0)) (updV V 1027 (.slice none 0 0))) := ⟨K1.out.setCell (fun _ => .inl rfl) _, fun k hk => .inl (foot_nil hk)⟩
  clear fin TK1 K1 k1 k2 f1 k0 f0 qn rn EX
  generalize w1.setCell ⟨p, 1027, none⟩ (.slice none 0 0) = w2 at *
  generalize updV V 1027 (.slice none 0 0) = V2 at *
  have hmin : min n 1048576 = n := by omega
  have hle : ¬ n > 0 := by omega
  have c9 : w2.cell? ⟨w.heap.size + 1, 0, none⟩ = some vg := TK2.out.rr.cell 0
  have hfin : RetTick w p m V S 0 (.returned vg) w2 := ⟨vg, V2, dueS S, rfl, TK2.out.wh, AF.out, ST2.out, TK2.out.sg, fun g hg => ⟨by have := OWN1.out g hg; omega, TK2.out.ng g hg⟩⟩
  have HF := Lib.hid hfin
  clear hfin
  go_wp2
  refine wp_loop_rounds 1 ?_
  rw [rounds_succ]
  go_wp2
  go_ret
  exact HF.out

end Go.Proofs.Ytlbdfhbkemikgaa

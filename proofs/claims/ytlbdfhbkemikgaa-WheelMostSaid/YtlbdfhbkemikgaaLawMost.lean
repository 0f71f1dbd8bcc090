/- The statement WheelMost is proved: just so many timers are there at once as may be; one more is refused, and has room when one expired or was cancelled. -/
import Derived.Test.YtlbdfhbkemikgaaRows
import Derived.Test.YtlbdfhbkemikgaaWalkJ
import Derived.Test.YtlbdfhbkemikgaaLawKit
set_option linter.unusedVariables false
set_option linter.unusedSimpArgs false
namespace Go.Proofs.Ytlbdfhbkemikgaa.wheelMost
open Go.ChangeShapes Go.WideShapes Go.ChangeAt Go.RowKit
open Plain

/-- the timers 0 to i - 1. -/
def row (i : Nat) : List Tm := (List.range i).map (fun (j : Nat) => Tm.mk j (10 + j) (100 + j))
theorem row_len (i : Nat) : (row i).length = i := by simp [row]
theorem row_succ (i : Nat) : row (i + 1) = row i ++ [⟨i, 10 + i, 100 + i⟩] := by simp [row, List.range_succ]
theorem row_mem {i : Nat} {t : Tm} (h : t ∈ row i) : t.id < i ∧ t.at_ = 10 + t.id ∧ t.what = 100 + (t.id : Int) := by
  obtain ⟨j, hj, rfl⟩ := List.mem_map.1 h
  exact ⟨List.mem_range.1 hj, rfl, rfl⟩
theorem mem_row {i j : Nat} (h : j < i) : (⟨j, 10 + j, 100 + j⟩ : Tm) ∈ row i := List.mem_map.2 ⟨j, List.mem_range.2 h, rfl⟩

theorem row_one : ∀ (i k : Nat) (P : Nat → Bool), k < i → (∀ j, j < i → (P j = false ↔ j = k)) → ((row i).filter (fun t => P t.id)).length + 1 = i
  | 0, k, P, h, _ => by omega
  | i + 1, k, P, h, hP => by
    rw [row_succ, List.filter_append, List.length_append]
    by_cases e : k = i
    · subst e
      have h1 : (row k).filter (fun t => P t.id) = row k := List.filter_eq_self.2 (fun t ht => by
        have := row_mem ht
        by_cases c : P t.id = true
        · exact c
        · have := (hP t.id (by omega)).1 (by simpa using c); omega)
      have h2 : P k = false := (hP k (by omega)).2 rfl
      simp [h1, row_len, List.filter_cons, h2]
    · have ih := row_one i k P (by omega) (fun j hj => hP j (by omega))
      have h2 : P i = true := by
        by_cases c : P i = true
        · exact c
        · have := (hP i (by omega)).1 (by simpa using c); omega
      simp [List.filter_cons, h2]; omega

/-- the wheel behind 'i' starts. -/
def FillSt (w0 w : World) (p m M i : Nat) : Prop := ∃ V S, St w0 w p m V S ∧ S.now = 0 ∧ S.next = i ∧ S.most = M ∧ S.live = row i

theorem fill_start {w0 w : World} {p m M i : Nat} (h : FillSt w0 w p m M i) (hi : i < M) (hM : M ≤ 100) :
    Calls Try.prog 12 #[.pointer (some ⟨p, 0, none⟩), .int .i64 (10 + (i : Int)), .int .i64 (100 + (i : Int))] w (fun e w' => e = .returned (.tuple #[.int .i64 (i : Int), .nilIface]) ∧ FillSt w0 w' p m M (i + 1)) := by
  obtain ⟨V, S, h, h1, h2, h3, h4⟩ := h
  have hl : S.live.length = i := by rw [h4, row_len]
  have C := startSt h (by omega) (by omega) (10 + i) (by omega) (100 + (i : Int)) (by omega) (by omega)
  rw [show ((10 + i : Nat) : Int) = 10 + (i : Int) by omega] at C
  refine C.mono ?_
  rintro e w' ⟨rfl, V', h', _⟩
  obtain ⟨f1, f2, f3, f4⟩ := startS_facts S (10 + i) (100 + (i : Int))
  exact ⟨by rw [h2], V', _, h', by rw [f1, h1], by rw [f2, h2], by rw [f3, h3], by rw [f4, h1, h2, h4, row_succ]; simp⟩

theorem fill_full {w0 w : World} {p m M : Nat} (h : FillSt w0 w p m M M) (hM : M ≤ 100) :
    Calls Try.prog 12 #[.pointer (some ⟨p, 0, none⟩), .int .i64 1, .int .i64 0] w (fun e w' => ∃ g, e = .returned (.tuple #[.int .i64 (-1), .iface 97 (.pointer (some ⟨g, 0, none⟩))]) ∧ FillSt w0 w' p m M M) := by
  obtain ⟨V, S, h, h1, h2, h3, h4⟩ := h
  have hl : S.live.length = M := by rw [h4, row_len]
  refine (start_full w p m V S h.1 1 0 (by omega) (by omega) (by omega) (by omega)).mono ?_
  rintro e w' ⟨g, rfl, _, _, hk⟩
  exact ⟨g, rfl, V, S, h.keep hk, h1, h2, h3, h4⟩

/-- one of them is gone. -/
def GoneSt (w0 w : World) (p m M : Nat) : Prop := ∃ V S, St w0 w p m V S ∧ S.now ≤ 10 ∧ S.next = M ∧ S.most = M ∧ S.live.length + 1 = M

theorem fill_cancel {w0 w : World} {p m M : Nat} (h : FillSt w0 w p m M M) (hM : M ≤ 100) (hM1 : 1 ≤ M) :
    Calls Try.prog 18 #[.pointer (some ⟨p, 0, none⟩), .int .i64 ((M : Int) / 2)] w (fun e w' => e = .returned (.tuple #[.int .i64 (10 + (M : Int) / 2), .nilIface]) ∧ GoneSt w0 w' p m M) := by
  obtain ⟨V, S, h, h1, h2, h3, h4⟩ := h
  have hm : (⟨M / 2, 10 + M / 2, 100 + (M / 2 : Nat)⟩ : Tm) ∈ S.live := by rw [h4]; exact mem_row (by omega)
  have C := cancel_some w p m V S h.1 (h.2.2.2.mid.ok (by omega) (by omega)) _ hm
  unfold iv at C
  rw [show ((M / 2 : Nat) : Int) = (M : Int) / 2 by omega] at C
  refine C.mono ?_
  rintro e w' ⟨rfl, V', hw, hs⟩
  refine ⟨by rw [h1]; simp, V', _, h.step hw hs (drop_rest h.2.2.2 _), by show S.now ≤ 10; omega, h2, h3, ?_⟩
  show (S.live.filter (fun t => decide (t.id ≠ M / 2))).length + 1 = M
  rw [h4]
  exact row_one M (M / 2) (fun j => decide (j ≠ M / 2)) (by omega) (fun j hj => by simp)

theorem row_first (M : Nat) (h : 1 ≤ M) : expFrom (row M) 0 11 = [0] := by
  rw [show 11 = 10 + 1 from rfl, expFrom_succ, expFrom_none _ _ _ (fun t ht => by have := row_mem ht; right; omega)]
  have key : ∀ M, 1 ≤ M → (row M).filter (fun t => decide (t.at_ = 0 + 10)) = [⟨0, 10, 100⟩] := by
    intro M h
    induction M with
    | zero => omega
    | succ n ih =>
      rw [row_succ, List.filter_append]
      by_cases c : n = 0
      · subst c; rfl
      · rw [ih (by omega)]
        simp [List.filter_cons]; omega
  rw [key M h]; rfl

theorem fill_tick {w0 w : World} {p m M : Nat} (h : FillSt w0 w p m M M) (hM : M ≤ 100) (hM1 : 1 ≤ M) :
    Calls Try.prog 11 #[.pointer (some ⟨p, 0, none⟩), .int .i64 10] w (fun e w' => ∃ A c, e = .returned (.slice A 1 c) ∧ Sl w' (.slice A 1 c) [0] ∧ GoneSt w0 w' p m M) := by
  obtain ⟨V, S, h, h1, h2, h3, h4⟩ := h
  refine (tickSt h (by omega) (by omega) 10 (by omega) (by omega)).mono ?_
  rintro e w' ⟨vg, V', S', rfl, h', ha, _, hv, _⟩
  have t : ticksOf 10 = 10 := by decide
  rw [t] at ha hv
  rw [h1, h4, row_first M hM1] at hv
  obtain ⟨A, c, rfl, _⟩ := sl_shape hv
  refine ⟨A, c, rfl, hv, V', S', h', by rw [ha.now]; omega, by rw [ha.next, h2], by rw [ha.most, h3], ?_⟩
  rw [ha.live, h1, h4]
  have e : (row M).filter (fun t => decide (0 + 10 < t.at_)) = (row M).filter (fun t => decide (0 < t.id)) := List.filter_congr (fun t ht => by
    have := row_mem ht; exact decide_eq_decide.2 (by omega))
  rw [e]
  exact row_one M 0 (fun j => decide (0 < j)) (by omega) (fun j hj => by simp)

/-- one more is there again. -/
def LastSt (w0 w : World) (p m M : Nat) : Prop := ∃ V S, St w0 w p m V S ∧ S.now ≤ 10 ∧ S.next = M + 1 ∧ S.live.length = M ∧ (⟨M, S.now + 5, 7⟩ : Tm) ∈ S.live

theorem GoneSt.keep {w0 w w' : World} {p m M : Nat} (h : GoneSt w0 w p m M) (hk : Keep Nothing w w') : GoneSt w0 w' p m M := by
  obtain ⟨V, S, h, r⟩ := h
  exact ⟨V, S, h.keep hk, r⟩

theorem gone_start {w0 w : World} {p m M : Nat} (h : GoneSt w0 w p m M) (hM : M ≤ 100) :
    Calls Try.prog 12 #[.pointer (some ⟨p, 0, none⟩), .int .i64 5, .int .i64 7] w (fun e w' => e = .returned (.tuple #[.int .i64 (M : Int), .nilIface]) ∧ LastSt w0 w' p m M) := by
  obtain ⟨V, S, h, h1, h2, h3, h4⟩ := h
  refine (startSt h (by omega) (by omega) 5 (by omega) 7 (by omega) (by omega)).mono ?_
  rintro e w' ⟨rfl, V', h', _⟩
  obtain ⟨f1, f2, f3, f4⟩ := startS_facts S 5 7
  exact ⟨by rw [h2], V', _, h', by rw [f1]; exact h1, by rw [f2, h2], by rw [f4]; simp; omega, by rw [f4, f1, h2]; simp⟩

theorem last_what {w0 w : World} {p m M : Nat} (h : LastSt w0 w p m M) (hM : M ≤ 100) :
    Calls Try.prog 19 #[.pointer (some ⟨p, 0, none⟩), .int .i64 (M : Int)] w (fun e w' => e = .returned (.tuple #[.int .i64 7, .nilIface]) ∧ LastSt w0 w' p m M) := by
  obtain ⟨V, S, h, h1, h2, h3, h4⟩ := h
  refine (what_some w p m V S h.1 (h.2.2.2.mid.ok (by omega) (by omega)) _ h4).mono ?_
  rintro e w' ⟨rfl, hk⟩
  exact ⟨rfl, V, S, h.keep hk, h1, h2, h3, h4⟩

theorem last_len {w0 w : World} {p m M : Nat} (h : LastSt w0 w p m M) :
    Calls Try.prog 16 #[.pointer (some ⟨p, 0, none⟩)] w (fun e w' => e = .returned (.int .i64 (M : Int)) ∧ w' = w) := by
  obtain ⟨V, S, h, h1, h2, h3, h4⟩ := h
  have := len_c w p m V S h.1
  rw [h3] at this
  exact this

theorem fill_len {w0 w : World} {p m M i : Nat} (h : FillSt w0 w p m M i) :
    Calls Try.prog 16 #[.pointer (some ⟨p, 0, none⟩)] w (fun e w' => e = .returned (.int .i64 (i : Int)) ∧ w' = w) := by
  obtain ⟨V, S, h, h1, h2, h3, h4⟩ := h
  have := len_c w p m V S h.1
  rw [h4, row_len] at this
  exact this

theorem own : ownKnob Try.prog.godebug = none := by kernel_rfl

set_option maxHeartbeats 1000000 in
set_option maxRecDepth 100000 in
theorem walk (a0 : Int) (a1 : Bool) (w0 : (Lit.int .i64 a0).wf = true) (w : World) :
    Calls Try.prog 7 #[.int .i64 a0, .bool a1] w fun e w' => e = .returned (.bool true) ∧ Below w.heap.size w w' := by
  have b0 : -9223372036854775808 ≤ a0 ∧ a0 ≤ 9223372036854775807 := by simp [Lit.wf, IntKind.min, IntKind.max, IntKind.signed, IntKind.bits] at w0; omega
  have P1 := Lib.hid (place_any a0 100 w b0.1 b0.2 (by omega) (by omega))
  obtain ⟨M, hM⟩ : ∃ M : Nat, (M : Int) = 1 + a0 % 100 := ⟨(1 + a0 % 100).toNat, by omega⟩
  have m1 : 1 ≤ M := by omega
  have m2 : M ≤ 100 := by omega
  have HM := Lib.hid (show 1 + a0 % 100 = (M : Int) from hM.symm)
  clear w0 b0 hM
  have conN := Lib.hid (newSt w M m1 (by omega))
  unfold iv at conN
  go_enter Try.func7, Try.ntmps7
  go_wp2_with fail
  refine P1.out.mono ?_
  rintro e w1 ⟨rfl, rfl⟩
  go_wp2_with fail
  rw [HM.out]
  refine conN.out.mono ?_
  rintro e w1 ⟨p, m, V1, rfl, h1⟩
  have F1 : Hid (FillSt w w1 p m M 0) := ⟨V1, S0 M, h1, rfl, rfl, rfl, rfl⟩
  clear conN h1 P1
  go_wp2_with fail
  go_loopw [8] (fun i wr => ∃ k : Nat, k ≤ M ∧ i = .int .i64 (k : Int) ∧ FillSt w wr p m M k) (fun i _ => M - (intOf i).toNat)
  case atStart => exact ⟨0, Nat.zero_le _, rfl, F1.out⟩
  case round =>
    clear F1
    obtain ⟨k, hk, rfl, hf⟩ := hrel
    by_cases hb : k < M
    · have C3 := Lib.hid (fill_start hf hb m2)
      clear hf
      go_wp2_with fail
      refine C3.out.mono ?_
      rintro e w3 ⟨rfl, hf3⟩
      have F3 := Lib.hid hf3
      clear hf3 C3
      go_wp2_with fail
      exact ⟨⟨k + 1, by omega, by go_num, F3.out⟩, by simp [intOf]; omega⟩
    · obtain rfl : k = M := by omega
      have C3 := Lib.hid (fill_full hf m2)
      clear hf
      go_wp2_with fail
      refine C3.out.mono ?_
      rintro e w3 ⟨g, rfl, hf3⟩
      have F3 := Lib.hid hf3
      have C4 := Lib.hid (fill_len hf3)
      clear hf3 C3
      go_wp2_with fail
      refine C4.out.mono ?_
      rintro e w4 ⟨rfl, rfl⟩
      clear C4
      cases a1
      · have C5 := Lib.hid (fill_tick F3.out m2 m1)
        clear F3
        go_wp2_with fail
        refine C5.out.mono ?_
        rintro e w5 ⟨A5, c5, rfl, hv5, hg5⟩
        have HV5 := Lib.hid hv5
        have G5 := Lib.hid hg5
        clear hv5 hg5 C5
        go_wp2_with fail
        refine (same_c (w5.alloc (.cells #[iv 0] 2)) (.slice A5 1 c5) (.slice (some ⟨w5.heap.size, 0, none⟩) 1 1) [0] (World.ownsRow.alloc HV5.out _) (one_row w5 0) (by decide)).mono ?_
        rintro e w6 ⟨rfl, hk6⟩
        have G6 := Lib.hid (G5.out.keep (((Keep.refl Nothing w5).alloc _).trans hk6 (fun _ _ h => h)))
        have C6 := Lib.hid (gone_start G6.out m2)
        clear HV5 G5 hk6
        go_wp2_with fail
        refine C6.out.mono ?_
        rintro e w7 ⟨rfl, hl7⟩
        have L7 := Lib.hid hl7
        have C7 := Lib.hid (last_what hl7 m2)
        clear hl7 C6
        go_wp2_with fail
        refine C7.out.mono ?_
        rintro e w8 ⟨rfl, hl8⟩
        have C8 := Lib.hid (last_len hl8)
        obtain ⟨V8, S8, h8, _⟩ := hl8
        have K8 := Lib.hid h8.2.2.1
        clear h8 C7 L7
        go_wp2_with fail
        refine C8.out.mono ?_
        rintro e w9 ⟨rfl, rfl⟩
        clear C8
        go_wp2_with fail
        refine (awake_c _).mono ?_
        rintro e wA ⟨rfl, hkA⟩
        have K := Lib.hid (K8.out.trans hkA (fun _ _ h => h))
        clear hkA K8
        go_wp2_with fail
        go_ret
        exact ⟨rfl, K.out.below (Nat.le_refl _) (fun _ _ h => h)⟩
      · have C5 := Lib.hid (fill_cancel F3.out m2 m1)
        clear F3
        have q1 : 0 ≤ (k : Int) := by omega
        have q2 : (k : Int) ≤ 100 := by omega
        go_wp2_with fail
        refine C5.out.mono ?_
        rintro e w5 ⟨rfl, hg5⟩
        have C6 := Lib.hid (gone_start hg5 m2)
        clear hg5 C5
        go_wp2_with fail
        refine C6.out.mono ?_
        rintro e w7 ⟨rfl, hl7⟩
        have L7 := Lib.hid hl7
        have C7 := Lib.hid (last_what hl7 m2)
        clear hl7 C6
        go_wp2_with fail
        refine C7.out.mono ?_
        rintro e w8 ⟨rfl, hl8⟩
        have C8 := Lib.hid (last_len hl8)
        obtain ⟨V8, S8, h8, _⟩ := hl8
        have K8 := Lib.hid h8.2.2.1
        clear h8 C7 L7
        go_wp2_with fail
        refine C8.out.mono ?_
        rintro e w9 ⟨rfl, rfl⟩
        clear C8
        go_wp2_with fail
        refine (awake_c _).mono ?_
        rintro e wA ⟨rfl, hkA⟩
        have K := Lib.hid (K8.out.trans hkA (fun _ _ h => h))
        clear hkA K8
        go_wp2_with fail
        go_ret
        exact ⟨rfl, K.out.below (Nat.le_refl _) (fun _ _ h => h)⟩

set_option maxRecDepth 100000 in
theorem lifted (os : Os) (started : os.Started) (H : Type) (enc : TypeId × Value → H) :
    ReturnsInHanded {} Try.checked os 7 .any (Rows.wheelMostSpec.pre6 enc Try.prog Try.f7 Rows.wheelMostRow.domain false) (Rows.wheelMostSpec.post enc Try.prog Try.f7 false true false false) := by
  refine returnsInHanded_of_change (C := Try.checked) own started (by kernel_rfl) Try.func7
    (ChangeSpec.witness6 (enc := enc) (C := Try.checked) false ⟨#[], #[.int .i64 0, .bool false], []⟩ 8 (by kernel_rfl) (by kernel_rfl) (by kernel_rfl) (by kernel_rfl)) ?_
  intro W base args ds gs before hval0 hW hcnd _
  have hval : ∀ (j : Nat) t v, Try.f7.params[j]? = some t → args[j]? = some v → Value.okWide Try.prog W .any base t v := hval0
  have hW' := hW
  obtain ⟨p, q, hA0, hV, rfl, hfz, hnd⟩ := hW
  have hA : DataW.TrodAll enc Try.prog W 0 (fun _ => true) true Try.f7.params.toList args.toList ds p := hA0
  rw [Try.params7] at hA hval
  obtain ⟨v0, vs0, d0, ds0, p0, q0, hargs, rfl, rfl, h0, r0⟩ := trodAll_cons hA
  obtain ⟨v1, vs1, d1, ds1, p1, q1, rfl, rfl, rfl, h1, r1⟩ := trodAll_cons r0
  obtain ⟨rfl, rfl, rfl⟩ := trodAll_nil r1
  obtain rfl : args = #[v0, v1] := by cases args; simp_all
  obtain ⟨a0, rfl, rfl, rfl, w0⟩ := open_int Try.underlying3 (hval 0 3 v0 rfl rfl) h0
  obtain ⟨a1, rfl, rfl, rfl⟩ := open_bool Try.underlying4 (hval 1 4 v1 rfl rfl) h1
  refine (walk a0 a1 w0 W).mono fun e W' ⟨he, hg⟩ => ?_
  subst he
  exact ⟨_, rfl, LawKit.law_post (tb := 4) (by kernel_rfl) Try.underlying4 rfl (by kernel_rfl) rfl hW' ⟨rfl, rfl, rfl⟩ hg⟩

theorem over : Rows.wheelMostRow.holds Try.pinned (OpenSpec.ofChange Rows.wheelMostSpec) :=
  OpenClaim.holds_of_wide 7 Try.f7 rfl rfl rfl rfl rfl rfl rfl ⟨rfl, rfl, rfl, rfl, rfl⟩ rfl rfl rfl rfl rfl (by kernel_rfl) Try.func7 (by kernel_rfl)
    (of_decide_eq_true (by kernel_rfl)) (by unfold Func.isWrapper; first | (rw [if_pos (by decide +kernel)]; kernel_rfl) | (rw [if_neg (by decide +kernel)]; exact ⟨rfl, rfl⟩))
    (fun os started H enc _ => lifted os started H enc)

theorem proved : Rows.WheelMostSaid :=
  over
#print axioms proved
end Go.Proofs.Ytlbdfhbkemikgaa.wheelMost

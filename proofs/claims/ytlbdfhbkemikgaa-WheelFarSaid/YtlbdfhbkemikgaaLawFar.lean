/- The statement WheelFar is proved: a timer of any number of ticks is that far away, and expires just then. -/
import Derived.Test.YtlbdfhbkemikgaaRows
import Derived.Test.YtlbdfhbkemikgaaWalkJ
import Derived.Test.YtlbdfhbkemikgaaLawKit
set_option linter.unusedVariables false
set_option linter.unusedSimpArgs false
namespace Go.Proofs.Ytlbdfhbkemikgaa.wheelFar
open Go.ChangeShapes Go.WideShapes Go.ChangeAt Go.RowKit
open Plain

/-- the wheel at 'now', its one timer 'n' ticks from the start. -/
def FarSt (w0 w : World) (p m : Nat) (n now : Nat) : Prop := ∃ V S, St w0 w p m V S ∧ S.now = now ∧ S.next = 1 ∧ S.live = [⟨0, n, 7⟩]

theorem far_tick {w0 w : World} {p m n now : Nat} (h : FarSt w0 w p m n now) (hn : now < 100000000000) (d : Nat) (hd : d ≤ 1048576) (hl : now + d < n) :
    Calls Try.prog 11 #[.pointer (some ⟨p, 0, none⟩), .int .i64 (d : Int)] w (fun e w' => ∃ A c, e = .returned (.slice A 0 c) ∧ FarSt w0 w' p m n (now + d)) := by
  obtain ⟨V, S, h, h1, h2, h3⟩ := h
  refine (tickSt h (by omega) (by omega) d (by omega) (by omega)).mono ?_
  rintro e w' ⟨vg, V', S', rfl, h', ha, _, hv, _⟩
  have t : ticksOf (d : Int) = d := by unfold ticksOf; omega
  rw [t] at ha hv
  have ex : expFrom S.live S.now (d + 1) = [] := expFrom_none _ _ _ (fun u hu => by rw [h3] at hu; simp at hu; subst hu; right; show S.now + (d + 1) ≤ n; omega)
  rw [ex] at hv
  obtain ⟨A, c, rfl, _⟩ := sl_shape hv
  exact ⟨A, c, rfl, V', S', h', by rw [ha.now, h1], by rw [ha.next, h2], by rw [ha.live, h3]; simp; omega⟩

theorem far_last {w0 w : World} {p m n now : Nat} (h : FarSt w0 w p m n now) (hn : now < 100000000000) (d : Nat) (hd : d ≤ 1048576) (hl : now + d = n) :
    Calls Try.prog 11 #[.pointer (some ⟨p, 0, none⟩), .int .i64 (d : Int)] w (fun e w' => ∃ vg V S, e = .returned vg ∧ Sl w' vg [0] ∧ St w0 w' p m V S ∧ S.now = n ∧ S.live = []) := by
  obtain ⟨V, S, h, h1, h2, h3⟩ := h
  refine (tickSt h (by omega) (by omega) d (by omega) (by omega)).mono ?_
  rintro e w' ⟨vg, V', S', rfl, h', ha, _, hv, _⟩
  have t : ticksOf (d : Int) = d := by unfold ticksOf; omega
  rw [t] at ha hv
  have ex : expFrom S.live S.now (d + 1) = [0] := by
    rw [expFrom_succ, expFrom_none _ _ _ (fun u hu => by rw [h3] at hu; simp at hu; subst hu; right; show S.now + d ≤ n; omega), h3]
    have e : n = S.now + d := by omega
    simp [ids, List.filter_cons, ← e]
  rw [ex] at hv
  exact ⟨vg, V', S', rfl, hv, h', by rw [ha.now, h1, hl], by rw [ha.live, h3]; simp; omega⟩

theorem far_left {w0 w : World} {p m n now : Nat} (h : FarSt w0 w p m n now) (hn : now < 100000000000) (hl : now ≤ n) :
    Calls Try.prog 17 #[.pointer (some ⟨p, 0, none⟩), .int .i64 0] w (fun e w' => e = .returned (.tuple #[.int .i64 ((n : Int) - now), .nilIface]) ∧ FarSt w0 w' p m n now) := by
  obtain ⟨V, S, h, h1, h2, h3⟩ := h
  refine (left_some w p m V S h.1 (h.2.2.2.mid.ok (by omega) (by omega)) ⟨0, n, 7⟩ (by rw [h3]; simp)).mono ?_
  rintro e w' ⟨rfl, hk⟩
  exact ⟨by rw [h1], V, S, h.keep hk, h1, h2, h3⟩

theorem own : ownKnob Try.prog.godebug = none := by kernel_rfl

set_option maxHeartbeats 1000000 in
set_option maxRecDepth 100000 in
theorem walk (a0 : Int) (a1 : Int) (w0 : (Lit.int .i64 a0).wf = true) (w1 : (Lit.int .i64 a1).wf = true) (w : World) :
    Calls Try.prog 5 #[.int .i64 a0, .int .i64 a1] w fun e w' => e = .returned (.bool true) ∧ Below w.heap.size w w' := by
  have b0 : -9223372036854775808 ≤ a0 ∧ a0 ≤ 9223372036854775807 := by simp [Lit.wf, IntKind.min, IntKind.max, IntKind.signed, IntKind.bits] at w0; omega
  have b1 : -9223372036854775808 ≤ a1 ∧ a1 ≤ 9223372036854775807 := by simp [Lit.wf, IntKind.min, IntKind.max, IntKind.signed, IntKind.bits] at w1; omega
  have P1 := Lib.hid (place_any a0 1073741824 w b0.1 b0.2 (by omega) (by omega))
  obtain ⟨n, hn⟩ : ∃ n : Nat, (n : Int) = a0 % 1073741824 := ⟨(a0 % 1073741824).toNat, by omega⟩
  have n1 : n < 1073741824 := by omega
  rw [← hn] at P1
  clear w0 w1 b0 hn
  have conN := Lib.hid (newSt w 2 (by omega) (by omega))
  unfold iv at conN
  go_enter Try.func5, Try.ntmps5
  go_wp2_with fail
  refine P1.out.mono ?_
  rintro e w1 ⟨rfl, rfl⟩
  go_wp2_with fail
  refine conN.out.mono ?_
  rintro e w1 ⟨p, m, V1, rfl, h1⟩
  have C1 := Lib.hid (startSt h1 (by decide) (by decide) n (by omega) 7 (by decide) (by decide))
  obtain ⟨f1, f2, f3, f4⟩ := startS_facts (S0 2) n 7
  have z : (S0 2).next = 0 := rfl
  rw [z] at C1 f4 f2
  generalize startS (S0 2) n 7 = S2 at *
  clear conN h1 P1
  go_wp2_with fail
  refine C1.out.mono ?_
  rintro e w2 ⟨rfl, V2, h2, _⟩
  have F2 : Hid (FarSt w w2 p m n 0) := ⟨V2, S2, h2, f1, f2, by rw [f4]; show [] ++ [_] = _; simp [S0]⟩
  clear C1 h2 f1 f2 f3 f4 z
  go_wp2_with fail
  go_loopw [9] (fun i wr => ∃ k : Nat, k ≤ n ∧ i = .int .i64 (k : Int) ∧ FarSt w wr p m n k) (fun i _ => n - (intOf i).toNat)
  case atStart => exact ⟨0, Nat.zero_le _, rfl, F2.out⟩
  case round =>
    clear F2
    obtain ⟨k, hk, rfl, hf⟩ := hrel
    by_cases hb : (n : Int) - k > 1048576
    · have C3 := Lib.hid (far_tick hf (by omega) 1048576 (by omega) (by omega))
      clear hf
      go_wp2_with fail
      refine C3.out.mono ?_
      rintro e w3 ⟨A, c, rfl, hf3⟩
      have F3 := Lib.hid hf3
      clear hf3 C3
      go_wp2_with fail
      exact ⟨⟨k + 1048576, by omega, by go_num, F3.out⟩, by simp [intOf]; omega⟩
    · have F3 := Lib.hid hf
      clear hf
      have C4 := Lib.hid (far_left F3.out (by omega) hk)
      go_wp2_with fail
      refine C4.out.mono ?_
      rintro e w3 ⟨rfl, hf3⟩
      have F4 := Lib.hid hf3
      clear hf3 C4 F3
      by_cases hb1 : (n : Int) - k > 1
      · have P2 := Lib.hid (place_any a1 ((n : Int) - k) w3 b1.1 b1.2 (by omega) (by omega))
        obtain ⟨d, hd⟩ : ∃ d : Nat, (d : Int) = a1 % ((n : Int) - k) := ⟨(a1 % ((n : Int) - k)).toNat, by have := Int.emod_nonneg a1 (b := (n : Int) - k) (by omega); omega⟩
        have hd1 : (d : Int) < (n : Int) - k := by rw [hd]; exact Int.emod_lt_of_pos _ (by omega)
        rw [← hd] at P2
        clear hd
        have C5 := Lib.hid (far_tick F4.out (by omega) d (by omega) (by omega))
        go_wp2_with fail
        refine P2.out.mono ?_
        rintro e w4 ⟨rfl, rfl⟩
        go_wp2_with fail
        refine C5.out.mono ?_
        rintro e w5 ⟨A, c, rfl, hf5⟩
        have er : (n : Int) - ((k : Int) + d) = ((n - (k + d) : Nat) : Int) := by omega
        have C6 := Lib.hid (far_last hf5 (by omega) (n - (k + d)) (by omega) (by omega))
        clear hf5 C5 P2 F4
        go_wp2_with fail
        refine C6.out.mono ?_
        rintro e w6 ⟨vg, V6, S6, rfl, hv6, h6, n6, l6⟩
        obtain ⟨A6, c6, rfl, _⟩ := sl_shape hv6
        have HV6 := Lib.hid hv6
        have H6 := Lib.hid h6
        have N6 := Lib.hid n6
        have L6 := Lib.hid l6
        clear hv6 h6 n6 l6 C6
        go_wp2_with fail
        refine (same_c (w6.alloc (.cells #[iv 0] 2)) (.slice A6 1 c6) (.slice (some ⟨w6.heap.size, 0, none⟩) 1 1) [0] (World.ownsRow.alloc HV6.out _) (one_row w6 0) (by decide)).mono ?_
        rintro e w7 ⟨rfl, hk7⟩
        have H7 := Lib.hid (H6.out.keep (((Keep.refl Nothing w6).alloc _).trans hk7 (fun _ _ h => h)))
        have C7 := Lib.hid (len_c w7 p m V6 S6 H7.out.1)
        rw [L6.out] at C7
        have C8 := Lib.hid (now_c w7 p m V6 S6 H7.out.1)
        rw [N6.out] at C8
        clear HV6 H6 hk7
        go_wp2_with fail
        refine C7.out.mono ?_
        rintro e w8 ⟨rfl, rfl⟩
        go_wp2_with fail
        refine C8.out.mono ?_
        rintro e w9 ⟨rfl, rfl⟩
        go_wp2_with fail
        refine (awake_c _).mono ?_
        rintro e wA ⟨rfl, hkA⟩
        have K := Lib.hid (H7.out.2.2.1.trans hkA (fun _ _ h => h))
        clear hkA C7 C8 H7
        go_wp2_with fail
        go_ret
        exact ⟨rfl, K.out.below (Nat.le_refl _) (fun _ _ h => h)⟩
      · have er : (n : Int) - (k : Int) = ((n - k : Nat) : Int) := by omega
        have C6 := Lib.hid (far_last F4.out (by omega) (n - k) (by omega) (by omega))
        clear F4
        go_wp2_with fail
        refine C6.out.mono ?_
        rintro e w6 ⟨vg, V6, S6, rfl, hv6, h6, n6, l6⟩
        obtain ⟨A6, c6, rfl, _⟩ := sl_shape hv6
        have HV6 := Lib.hid hv6
        have H6 := Lib.hid h6
        have N6 := Lib.hid n6
        have L6 := Lib.hid l6
        clear hv6 h6 n6 l6 C6
        go_wp2_with fail
        refine (same_c (w6.alloc (.cells #[iv 0] 2)) (.slice A6 1 c6) (.slice (some ⟨w6.heap.size, 0, none⟩) 1 1) [0] (World.ownsRow.alloc HV6.out _) (one_row w6 0) (by decide)).mono ?_
        rintro e w7 ⟨rfl, hk7⟩
        have H7 := Lib.hid (H6.out.keep (((Keep.refl Nothing w6).alloc _).trans hk7 (fun _ _ h => h)))
        have C7 := Lib.hid (len_c w7 p m V6 S6 H7.out.1)
        rw [L6.out] at C7
        have C8 := Lib.hid (now_c w7 p m V6 S6 H7.out.1)
        rw [N6.out] at C8
        clear HV6 H6 hk7
        go_wp2_with fail
        refine C7.out.mono ?_
        rintro e w8 ⟨rfl, rfl⟩
        go_wp2_with fail
        refine C8.out.mono ?_
        rintro e w9 ⟨rfl, rfl⟩
        go_wp2_with fail
        refine (awake_c _).mono ?_
        rintro e wA ⟨rfl, hkA⟩
        have K := Lib.hid (H7.out.2.2.1.trans hkA (fun _ _ h => h))
        clear hkA C7 C8 H7
        go_wp2_with fail
        go_ret
        exact ⟨rfl, K.out.below (Nat.le_refl _) (fun _ _ h => h)⟩

set_option maxRecDepth 100000 in
theorem lifted (os : Os) (started : os.Started) (H : Type) (enc : TypeId × Value → H) :
    ReturnsInHanded {} Try.checked os 5 .any (Rows.wheelFarSpec.pre6 enc Try.prog Try.f5 Rows.wheelFarRow.domain false) (Rows.wheelFarSpec.post enc Try.prog Try.f5 false true false false) := by
  refine returnsInHanded_of_change (C := Try.checked) own started (by kernel_rfl) Try.func5
    (ChangeSpec.witness6 (enc := enc) (C := Try.checked) false ⟨#[], #[.int .i64 0, .int .i64 0], []⟩ 8 (by kernel_rfl) (by kernel_rfl) (by kernel_rfl) (by kernel_rfl)) ?_
  intro W base args ds gs before hval0 hW hcnd _
  have hval : ∀ (j : Nat) t v, Try.f5.params[j]? = some t → args[j]? = some v → Value.okWide Try.prog W .any base t v := hval0
  have hW' := hW
  obtain ⟨p, q, hA0, hV, rfl, hfz, hnd⟩ := hW
  have hA : DataW.TrodAll enc Try.prog W 0 (fun _ => true) true Try.f5.params.toList args.toList ds p := hA0
  rw [Try.params5] at hA hval
  obtain ⟨v0, vs0, d0, ds0, p0, q0, hargs, rfl, rfl, h0, r0⟩ := trodAll_cons hA
  obtain ⟨v1, vs1, d1, ds1, p1, q1, rfl, rfl, rfl, h1, r1⟩ := trodAll_cons r0
  obtain ⟨rfl, rfl, rfl⟩ := trodAll_nil r1
  obtain rfl : args = #[v0, v1] := by cases args; simp_all
  obtain ⟨a0, rfl, rfl, rfl, w0⟩ := open_int Try.underlying3 (hval 0 3 v0 rfl rfl) h0
  obtain ⟨a1, rfl, rfl, rfl, w1⟩ := open_int Try.underlying3 (hval 1 3 v1 rfl rfl) h1
  refine (walk a0 a1 w0 w1 W).mono fun e W' ⟨he, hg⟩ => ?_
  subst he
  exact ⟨_, rfl, LawKit.law_post (tb := 4) (by kernel_rfl) Try.underlying4 rfl (by kernel_rfl) rfl hW' ⟨rfl, rfl, rfl⟩ hg⟩

theorem over : Rows.wheelFarRow.holds Try.pinned (OpenSpec.ofChange Rows.wheelFarSpec) :=
  OpenClaim.holds_of_wide 5 Try.f5 rfl rfl rfl rfl rfl rfl rfl ⟨rfl, rfl, rfl, rfl, rfl⟩ rfl rfl rfl rfl rfl (by kernel_rfl) Try.func5 (by kernel_rfl)
    (of_decide_eq_true (by kernel_rfl)) (by unfold Func.isWrapper; first | (rw [if_pos (by decide +kernel)]; kernel_rfl) | (rw [if_neg (by decide +kernel)]; exact ⟨rfl, rfl⟩))
    (fun os started H enc _ => lifted os started H enc)

theorem proved : Rows.WheelFarSaid :=
  over
#print axioms proved
end Go.Proofs.Ytlbdfhbkemikgaa.wheelFar

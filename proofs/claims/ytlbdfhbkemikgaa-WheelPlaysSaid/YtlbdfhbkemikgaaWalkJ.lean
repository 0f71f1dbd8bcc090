/- Joined contracts of Start and Tick; the walk of awake. -/
import Derived.Test.YtlbdfhbkemikgaaWalkI
set_option linter.unusedVariables false
set_option linter.unusedSimpArgs false
namespace Go.Proofs.Ytlbdfhbkemikgaa
open Go.RowKit Plain

def startS (S : WS) (n : Nat) (what : Int) : WS := if n = 0 then start0 S what else startN S n what

theorem startS_facts (S : WS) (n : Nat) (what : Int) : (startS S n what).now = S.now ∧ (startS S n what).next = S.next + 1 ∧ (startS S n what).most = S.most ∧ (startS S n what).live = S.live ++ [⟨S.next, S.now + n, what⟩] := by
  unfold startS
  split
  · rename_i e; subst e; exact ⟨rfl, rfl, rfl, rfl⟩
  · exact ⟨rfl, rfl, rfl, rfl⟩

theorem start_c (w : World) (p m : Nat) (V : Nat → Value) (S : WS) (h : Wh w p m V S) (hr : Rest S) (hn : S.now < 200000000000) (hx : S.next < 200000000000) (n : Nat) (hn1 : n ≤ 1073741824) (what : Int) (hf : S.live.length < S.most) (hm : S.most < 1000000000000) :
    Calls Try.prog 12 #[.pointer (some ⟨p, 0, none⟩), iv n, .int .i64 what] w (RetW w p m V (.tuple #[iv S.next, .nilIface]) (startS S n what)) := by
  have ok := hr.mid.ok (by omega) (by omega)
  unfold startS
  by_cases e : n = 0
  · subst e
    rw [if_pos rfl]
    exact start_zero w p m V S h ok what (by omega) hf hm
  · rw [if_neg e]
    exact start_pos w p m V S h ok n (by omega) hn1 what (by omega) hf hm

theorem startS_rest {S : WS} (h : Rest S) (n : Nat) (what : Int) (h1 : n ≤ 1073741824) : Rest (startS S n what) := start_rest h n what h1

/-- how many ticks a Tick goes on. -/
def ticksOf (n : Int) : Nat := (min n 1048576).toNat

theorem tickAny_c (w : World) (p m : Nat) (V : Nat → Value) (S : WS) (h : Wh w p m V S) (hr : Rest S) (hn : S.now < 200000000000) (hx : S.next < 200000000000) (n : Int) (hn0 : -9223372036854775808 ≤ n) (hn1 : n ≤ 9223372036854775807) :
    Calls Try.prog 11 #[.pointer (some ⟨p, 0, none⟩), .int .i64 n] w (RetTick w p m V S (ticksOf n)) := by
  by_cases c : 0 < n
  · exact tick_c w p m V S h hr hn hx n (ticksOf n) c hn1 (by unfold ticksOf; omega)
  · have e : ticksOf n = 0 := by unfold ticksOf; omega
    rw [e]
    exact tick_0 w p m V S h hr hn hx n (by omega) hn0

theorem one_row (w : World) (k : Nat) : Sl (w.alloc (.cells #[iv k] 2)) (.slice (some ⟨w.heap.size, 0, none⟩) 1 1) [k] := by
  refine ⟨rfl, .inr ⟨w.heap.size, 1, #[iv k], rfl, Nat.zero_le _, heap_alloc_new w _, by simp, by unfold maxLen; omega, rfl, by simp⟩⟩

/-- a wheel that a call has made, in order; all that was there stays. -/
def St (w0 w : World) (p m : Nat) (V : Nat → Value) (S : WS) : Prop := Wh w p m V S ∧ (∀ k, foot p m V k → w0.heap.size ≤ k) ∧ Keep Nothing w0 w ∧ Rest S

theorem St.step {w0 w w' : World} {p m : Nat} {V V' : Nat → Value} {S S' : WS} (h : St w0 w p m V S) (hw : Wh w' p m V' S') (hs : Step p m w V w' V') (hr : Rest S') : St w0 w' p m V' S' :=
  ⟨hw, fun k hk => (hs.sub k hk).elim (h.2.1 k) (fun h' => Nat.le_trans h.2.2.1.size h'), h.2.2.1.trans hs.keep (fun k hk hf => by have := h.2.1 k hf; omega), hr⟩

theorem St.keep {w0 w w' : World} {p m : Nat} {V : Nat → Value} {S : WS} (h : St w0 w p m V S) (hk : Keep Nothing w w') : St w0 w' p m V S :=
  ⟨h.1.keep hk (fun _ _ h => h), h.2.1, h.2.2.1.trans hk (fun _ _ h => h), h.2.2.2⟩

theorem newSt (w : World) (n : Nat) (hn : 1 ≤ n) (hn1 : n ≤ 4096) :
    Calls Try.prog 9 #[iv n] w (fun e w' => ∃ p m V, e = .returned (.tuple #[.pointer (some ⟨p, 0, none⟩), .nilIface]) ∧ St w w' p m V (S0 n)) :=
  (new_c w n hn hn1).mono fun _ _ ⟨p, m, V, he, hw, hf, hk⟩ => ⟨p, m, V, he, hw, hf, hk, S0_rest n⟩

theorem startSt {w0 w : World} {p m : Nat} {V : Nat → Value} {S : WS} (h : St w0 w p m V S) (hn : S.now < 200000000000) (hx : S.next < 200000000000) (n : Nat) (hn1 : n ≤ 1073741824) (what : Int) (hf : S.live.length < S.most) (hm : S.most < 1000000000000) :
    Calls Try.prog 12 #[.pointer (some ⟨p, 0, none⟩), .int .i64 (n : Int), .int .i64 what] w (fun e w' => e = .returned (.tuple #[.int .i64 (S.next : Int), .nilIface]) ∧ ∃ V', St w0 w' p m V' (startS S n what) ∧ Step p m w V w' V') :=
  (start_c w p m V S h.1 h.2.2.2 hn hx n hn1 what hf hm).mono fun _ _ ⟨he, V', hw, hs⟩ => ⟨he, V', h.step hw hs (startS_rest h.2.2.2 n what hn1), hs⟩

theorem tickSt {w0 w : World} {p m : Nat} {V : Nat → Value} {S : WS} (h : St w0 w p m V S) (hn : S.now < 200000000000) (hx : S.next < 200000000000) (n : Int) (hn0 : -9223372036854775808 ≤ n) (hn1 : n ≤ 9223372036854775807) :
    Calls Try.prog 11 #[.pointer (some ⟨p, 0, none⟩), .int .i64 n] w (fun e w' => ∃ vg V' S', e = .returned vg ∧ St w0 w' p m V' S' ∧ After S S' (ticksOf n) ∧ Step p m w V w' V' ∧ Sl w' vg (expFrom S.live S.now (ticksOf n + 1)) ∧
      ∀ g, vg.ownBlock = some g → w.heap.size ≤ g ∧ ¬ foot p m V' g) :=
  (tickAny_c w p m V S h.1 h.2.2.2 hn hx n hn0 hn1).mono fun _ _ ⟨vg, V', S', he, hw, ha, hs, hv, ho⟩ => ⟨vg, V', S', he, h.step hw hs ha.calm.rest, ha, hs, hv, ho⟩

set_option maxHeartbeats 1000000 in
set_option maxRecDepth 100000 in
theorem awake_c (w : World) : Calls Try.prog 13 #[] w (RetB w) := by
  have conN := Lib.hid (newSt w 5 (by omega) (by omega))
  unfold iv at conN
  go_enter Try.func13, Try.ntmps13
  go_wp2_with fail
  refine conN.out.mono ?_
  rintro e w1 ⟨p, m, V1, rfl, h1⟩
  have C1 := Lib.hid (startSt h1 (by decide) (by decide) 3 (by omega) 70 (by decide) (by decide))
  obtain ⟨f1, f2, f3, f4⟩ := startS_facts (S0 5) 3 70
  generalize startS (S0 5) 3 70 = S2 at *
  clear conN h1
  go_wp2_with fail
  refine C1.out.mono ?_
  rintro e w2 ⟨rfl, V2, h2, _⟩
  have f1' : S2.now = 0 := f1
  have f2' : S2.next = 1 := f2
  have f3' : S2.most = 5 := f3
  have f4' : S2.live = [⟨0, 3, 70⟩] := f4
  have C2 := Lib.hid (startSt h2 (by omega) (by omega) 1 (by omega) 71 (by rw [f4', f3']; decide) (by omega))
  obtain ⟨g1, g2, g3, g4⟩ := startS_facts S2 1 71
  rw [f1'] at g1 g4
  rw [f2'] at g2 g4 C2
  rw [f3'] at g3
  rw [f4'] at g4
  generalize startS S2 1 71 = S3 at *
  clear C1 h2 f1 f2 f3 f4 f1' f2' f3' f4'
  go_wp2_with fail
  refine C2.out.mono ?_
  rintro e w3 ⟨rfl, V3, h3, _⟩
  have C3 := Lib.hid (tickSt h3 (by omega) (by omega) 2 (by decide) (by decide))
  clear C2 h3
  go_wp2_with fail
  refine C3.out.mono ?_
  rintro e w4 ⟨vg, V4, S4, rfl, h4, ha, _, hv, _⟩
  have t2 : ticksOf 2 = 2 := by decide
  rw [t2] at ha hv
  have n4 : S4.now = 2 := by rw [ha.now, g1]
  have l4 : S4.live = [⟨0, 3, 70⟩] := by rw [ha.live, g1, g4]; rfl
  have x4 : expFrom S3.live S3.now (2 + 1) = [1] := by rw [g1, g4]; decide
  rw [x4] at hv
  have y4 : S4.next = 2 := by rw [ha.next, g2]
  have m4 : S4.most = 5 := by rw [ha.most, g3]
  have C4 := left_some w4 p m V4 S4 h4.1 (h4.2.2.2.mid.ok (by omega) (by omega)) ⟨0, 3, 70⟩ (by rw [l4]; simp)
  rw [n4] at C4
  unfold iv at C4
  have C4' := Lib.hid C4
  have H4 := Lib.hid h4
  have HV := Lib.hid hv
  clear C3 C4 h4 hv ha x4 g1 g2 g3 g4
  obtain ⟨A, c, rfl, _⟩ := sl_shape HV.out
  go_wp2_with fail
  refine C4'.out.mono ?_
  rintro e w5 ⟨rfl, hk5⟩
  have H5 := Lib.hid (H4.out.keep hk5)
  have HV5 := Lib.hid (sl_keep HV.out hk5)
  clear C4' H4 HV hk5
  go_wp2_with fail
  refine (same_c (w5.alloc (.cells #[iv 1] 2)) (.slice A 1 c) (.slice (some ⟨w5.heap.size, 0, none⟩) 1 1) [1] (World.ownsRow.alloc HV5.out _) (one_row w5 1) (by decide)).mono ?_
  rintro e w6 ⟨rfl, hk6⟩
  have H6 := Lib.hid (H5.out.keep (((Keep.refl Nothing w5).alloc _).trans hk6 (fun _ _ h => h)))
  have C6 := Lib.hid (tickSt H6.out (by omega) (by omega) 1 (by decide) (by decide))
  clear HV5 H5 hk6
  go_wp2_with fail
  refine C6.out.mono ?_
  rintro e w7 ⟨vg7, V7, S7, rfl, h7, ha7, _, hv7, _⟩
  have t1 : ticksOf 1 = 1 := by decide
  rw [t1, show expFrom S4.live S4.now (1 + 1) = [0] by rw [n4, l4]; decide] at hv7
  obtain ⟨A7, c7, rfl, _⟩ := sl_shape hv7
  have H7 := Lib.hid h7
  have HV7 := Lib.hid hv7
  clear C6 H6 h7 ha7 hv7
  go_wp2_with fail
  refine (same_c (w7.alloc (.cells #[iv 0] 2)) (.slice A7 1 c7) (.slice (some ⟨w7.heap.size, 0, none⟩) 1 1) [0] (World.ownsRow.alloc HV7.out _) (one_row w7 0) (by decide)).mono ?_
  rintro e w8 ⟨rfl, hk8⟩
  have H8 := Lib.hid (H7.out.keep (((Keep.refl Nothing w7).alloc _).trans hk8 (fun _ _ h => h)))
  clear HV7 H7 hk8
  go_wp2_with fail
  go_ret
  exact ⟨rfl, H8.out.2.2.1⟩
end Go.Proofs.Ytlbdfhbkemikgaa

/- The statement WheelParts is proved: ticks in parts are the same as at once: the same timers, in the same order. -/
import Derived.Test.YtlbdfhbkemikgaaRows
import Derived.Test.YtlbdfhbkemikgaaTwo
import Derived.Test.YtlbdfhbkemikgaaLawKit
set_option linter.unusedVariables false
set_option linter.unusedSimpArgs false
namespace Go.Proofs.Ytlbdfhbkemikgaa.wheelParts
open Go.ChangeShapes Go.WideShapes Go.ChangeAt Go.RowKit
open Plain

/-- two wheels: what their states are. -/
def PSt (w0 w : World) (p m p' m' : Nat) (V V' : Nat → Value) (now now' i i' : Nat) (L L' : List Tm) : Prop :=
  ∃ S S', Two w0 w p m V S p' m' V' S' ∧ (S.now = now ∧ S.next = i ∧ S.most = 1000 ∧ S.live = L) ∧ (S'.now = now' ∧ S'.next = i' ∧ S'.most = 1000 ∧ S'.live = L')

theorem PSt.swap {w0 w : World} {p m p' m' : Nat} {V V' : Nat → Value} {now now' i i' : Nat} {L L' : List Tm} (h : PSt w0 w p m p' m' V V' now now' i i' L L') : PSt w0 w p' m' p m V' V now' now i' i L' L := by
  obtain ⟨S, S', h, a, b⟩ := h
  exact ⟨S', S, h.swap, b, a⟩

theorem PSt.keep {w0 w w1 : World} {p m p' m' : Nat} {V V' : Nat → Value} {now now' i i' : Nat} {L L' : List Tm} (h : PSt w0 w p m p' m' V V' now now' i i' L L') (hk : Keep Nothing w w1) : PSt w0 w1 p m p' m' V V' now now' i i' L L' := by
  obtain ⟨S, S', h, a, b⟩ := h
  exact ⟨S, S', h.keep hk, a, b⟩

def Start2 (w0 w : World) (p m p' m' : Nat) (V' : Nat → Value) (now now' i i' : Nat) (L L' : List Tm) (x : Value) (e : Ending) (w' : World) : Prop :=
  e = .returned x ∧ ∃ V1, PSt w0 w' p m p' m' V1 V' now now' i i' L L'

theorem p_start {w0 w : World} {p m p' m' : Nat} {V V' : Nat → Value} {now now' i i' : Nat} {L L' : List Tm} (h : PSt w0 w p m p' m' V V' now now' i i' L L') (hi : i < 1000) (hL : L.length = i) (hn : now ≤ 1000000) (n : Nat) (hn1 : n ≤ 1000000) (what : Int) :
    Calls Try.prog 12 #[.pointer (some ⟨p, 0, none⟩), .int .i64 (n : Int), .int .i64 what] w (Start2 w0 w p m p' m' V' now now' (i + 1) i' (L ++ [⟨i, now + n, what⟩]) L' (.tuple #[.int .i64 (i : Int), .nilIface])) := by
  obtain ⟨S, S', h, ⟨h1, h2, h3, h4⟩, hb⟩ := h
  refine (startSt h.a (by omega) (by omega) n (by omega) what (by rw [h4]; omega) (by omega)).mono ?_
  rintro e w' ⟨rfl, V1, ha, hs⟩
  obtain ⟨f1, f2, f3, f4⟩ := startS_facts S n what
  exact ⟨by rw [h2], V1, _, S', h.step hs ha, ⟨by rw [f1, h1], by rw [f2, h2], by rw [f3, h3], by rw [f4, h1, h2, h4]⟩, hb⟩

/-- what was got lies apart. -/
def Got (w : World) (p m p' m' : Nat) (V V' : Nat → Value) (v : Value) (G : List Nat) : Prop := Sl w v G ∧ ∀ g, v.ownBlock = some g → ¬ foot p m V g ∧ ¬ foot p' m' V' g

def Tick2 (w0 w : World) (p m p' m' : Nat) (V' : Nat → Value) (now now' i i' : Nat) (L' : List Tm) (v : Value) (G : List Nat) (L : List Tm) (d : Nat) (e : Ending) (w' : World) : Prop :=
  ∃ V1 u, e = .returned u ∧ PSt w0 w' p m p' m' V1 V' (now + d) now' i i' (L.filter (fun t => decide (now + d < t.at_))) L' ∧ Got w' p m p' m' V1 V' v G ∧
    Got w' p m p' m' V1 V' u (expFrom L now (d + 1)) ∧ (∀ g, v.ownBlock = some g → u.ownBlock ≠ some g)

theorem p_tick {w0 w : World} {p m p' m' : Nat} {V V' : Nat → Value} {now now' i i' : Nat} {L L' : List Tm} (h : PSt w0 w p m p' m' V V' now now' i i' L L') (hi : i ≤ 1000) (hn : now ≤ 1000000) (v : Value) (G : List Nat) (hv : Got w p m p' m' V V' v G) (d : Nat) (hd : d ≤ 1048576) :
    Calls Try.prog 11 #[.pointer (some ⟨p, 0, none⟩), .int .i64 (d : Int)] w (Tick2 w0 w p m p' m' V' now now' i i' L' v G L d) := by
  obtain ⟨S, S', h, ⟨h1, h2, h3, h4⟩, hb⟩ := h
  refine (tickSt h.a (by omega) (by omega) d (by omega) (by omega)).mono ?_
  rintro e w' ⟨u, V1, S1, rfl, hst, ha, hs, hu, ho⟩
  have t : ticksOf (d : Int) = d := by unfold ticksOf; omega
  rw [t] at ha hu
  rw [h1, h4] at hu
  refine ⟨V1, u, rfl, ⟨S1, S', h.step hs hst, ⟨by rw [ha.now, h1], by rw [ha.next, h2], by rw [ha.most, h3], by rw [ha.live, h1, h4]⟩, hb⟩,
    ⟨own_keep hv.1 hs.keep (fun g hg => (hv.2 g hg).1), fun g hg => ⟨fun hf => ?_, (hv.2 g hg).2⟩⟩, ⟨hu, fun g hg => ⟨(ho g hg).2, fun hf => ?_⟩⟩, fun g hg hg' => ?_⟩
  · rcases hs.sub g hf with h' | h'
    · exact (hv.2 g hg).1 h'
    · have := hv.1.lt hg; omega
  · have := h.b.1.foot_lt hf
    have := (ho g hg).1; omega
  · have := hv.1.lt hg
    have := (ho g hg').1; omega

/-- the append. -/
theorem p_append {w0 w w' : World} {p m p' m' : Nat} {V V' : Nat → Value} {now now' i i' : Nat} {L L' : List Tm} (h : PSt w0 w p m p' m' V V' now now' i i' L L') {v v' : Value} {G G' : List Nat} (hv : Got w p m p' m' V V' v G)
    (hs : Sl w' v' G') (hg : w.grownBy w' v.ownBlock) (ho : ∀ g, v'.ownBlock = some g → v.ownBlock = some g ∨ w.heap.size ≤ g) (hw : ∀ g, v.ownBlock = some g → w0.heap.size ≤ g) :
    PSt w0 w' p m p' m' V V' now now' i i' L L' ∧ Got w' p m p' m' V V' v' G' := by
  obtain ⟨S, S', h, ra, rb⟩ := h
  have hblk : ∀ k, k < w.heap.size → (foot p m V k ∨ foot p' m' V' k) → w'.heap[k]? = w.heap[k]? := fun k hk hf => hg.block k hk (fun e => by
    have := hv.2 k e.symm
    exact hf.elim this.1 this.2)
  have ka : Keep Nothing w0 w' := h.a.2.2.1.grown hg (fun k e hk => by have := hw k e; omega)
  refine ⟨⟨S, S', ⟨⟨h.a.1.same (fun k hk => hblk k (h.a.1.foot_lt hk) (.inl hk)), h.a.2.1, ka, h.a.2.2.2⟩, ⟨h.b.1.same (fun k hk => hblk k (h.b.1.foot_lt hk) (.inr hk)), h.b.2.1, ka, h.b.2.2.2⟩, h.apart⟩, ra, rb⟩, hs, fun g hg' => ?_⟩
  rcases ho g hg' with h' | h'
  · exact hv.2 g h'
  · exact ⟨fun hf => by have := h.a.1.foot_lt hf; omega, fun hf => by have := h.b.1.foot_lt hf; omega⟩

/-! ### plain -/
theorem exp_filter (L : List Tm) (a N : Nat) (h : a ≤ N + 1) : ∀ k, expFrom (L.filter (fun t => decide (N < t.at_))) a k = (List.range k).flatMap (fun i => if N < a + i then ids (L.filter (fun t => decide (t.at_ = a + i))) else []) := by
  intro k
  unfold expFrom
  congr 1
  funext i
  rw [List.filter_filter]
  split
  · rename_i c
    congr 1
    exact List.filter_congr (fun t _ => by by_cases e : t.at_ = a + i <;> simp [e]; omega)
  · rename_i c
    have : L.filter (fun t => decide (t.at_ = a + i) && decide (N < t.at_)) = [] := List.filter_eq_nil_iff.2 (fun t _ => by simp; omega)
    rw [this]; rfl

theorem exp_parts (L : List Tm) (N d : Nat) : expFrom L 0 (N + 1) ++ expFrom (L.filter (fun t => decide (N < t.at_))) N (d + 1) = expFrom L 0 (N + d + 1) := by
  have e1 : N + d + 1 = (N + 1) + d := by omega
  rw [e1, expFrom_add L 0 (N + 1) d]
  congr 1
  rw [exp_filter L N N (by omega), List.range_succ_eq_map, List.flatMap_cons, if_neg (by omega), List.nil_append, List.flatMap_map]
  unfold expFrom
  congr 1
  funext i
  rw [if_pos (by simp)]
  congr 2
  funext t
  exact decide_eq_decide.2 (by simp; omega)

theorem live_parts (L : List Tm) (N d : Nat) : (L.filter (fun t => decide (N < t.at_))).filter (fun t => decide (N + d < t.at_)) = L.filter (fun t => decide (N + d < t.at_)) := by
  rw [List.filter_filter]
  exact List.filter_congr (fun t _ => by by_cases c : N + d < t.at_ <;> simp [c]; omega)

theorem live_zero (L : List Tm) (h : ∀ t ∈ L, 1 ≤ t.at_) : L.filter (fun t => decide (0 < t.at_)) = L := List.filter_eq_self.2 (fun t ht => by have := h t ht; simp; omega)

theorem exp_zero (L : List Tm) (h : ∀ t ∈ L, 1 ≤ t.at_) : expFrom L 0 1 = [] := expFrom_none _ _ _ (fun t ht => by have := h t ht; right; omega)


theorem p_now {w0 w : World} {p m p' m' : Nat} {V V' : Nat → Value} {now now' i i' : Nat} {L L' : List Tm} (h : PSt w0 w p m p' m' V V' now now' i i' L L') :
    Calls Try.prog 15 #[.pointer (some ⟨p, 0, none⟩)] w (fun e w' => e = .returned (.int .i64 (now : Int)) ∧ w' = w) := by
  obtain ⟨S, S', h, ⟨h1, h2, h3, h4⟩, hb⟩ := h
  have := now_c w p m V S h.a.1
  rw [h1] at this
  exact this

theorem p_len {w0 w : World} {p m p' m' : Nat} {V V' : Nat → Value} {now now' i i' : Nat} {L L' : List Tm} (h : PSt w0 w p m p' m' V V' now now' i i' L L') :
    Calls Try.prog 16 #[.pointer (some ⟨p, 0, none⟩)] w (fun e w' => e = .returned (.int .i64 (L.length : Int)) ∧ w' = w) := by
  obtain ⟨S, S', h, ⟨h1, h2, h3, h4⟩, hb⟩ := h
  have := len_c w p m V S h.a.1
  rw [h4] at this
  exact this

theorem p_kept {w0 w : World} {p m p' m' : Nat} {V V' : Nat → Value} {now now' i i' : Nat} {L L' : List Tm} (h : PSt w0 w p m p' m' V V' now now' i i' L L') : Keep Nothing w0 w := by
  obtain ⟨S, S', h, _⟩ := h
  exact h.a.2.2.1

theorem Got.keep {w w' : World} {p m p' m' : Nat} {V V' : Nat → Value} {v : Value} {G : List Nat} (h : Got w p m p' m' V V' v G) (hk : Keep Nothing w w') : Got w' p m p' m' V V' v G := ⟨sl_keep h.1 hk, h.2⟩
theorem Got.swap {w : World} {p m p' m' : Nat} {V V' : Nat → Value} {v : Value} {G : List Nat} (h : Got w p m p' m' V V' v G) : Got w p' m' p m V' V v G := ⟨h.1, fun g hg => (h.2 g hg).symm⟩

theorem exp_short (L : List Tm) (a k : Nat) : (expFrom L a k).length ≤ L.length := Nat.le_trans (expFrom_len L a k) (List.length_filter_le _ _)

/-- at the head of a round of the starts. -/
def R1 (w : World) (p m p' m' n : Nat) (i : Value) (wr : World) : Prop :=
  ∃ (k : Nat) (L : List Tm) (V V' : Nat → Value), k ≤ 1000 ∧ k ≤ n ∧ i = .int .i64 (k : Int) ∧ PSt w wr p m p' m' V V' 0 0 k k L L ∧ L.length = k ∧ ∀ t ∈ L, 1 ≤ t.at_

/-- at the head of a round of the ticks. -/
def R2 (w : World) (p m p' m' K n : Nat) (L : List Tm) (v s i : Value) (wr : World) : Prop :=
  ∃ (k sum : Nat) (V V' : Nat → Value), k ≤ 50 ∧ k ≤ n ∧ sum ≤ 10000 * k ∧ i = .int .i64 (k : Int) ∧ s = .int .i64 (sum : Int) ∧
    PSt w wr p m p' m' V V' sum 0 K K (L.filter (fun t => decide (sum < t.at_))) L ∧ Got wr p m p' m' V V' v (expFrom L 0 (sum + 1)) ∧ ∀ g, v.ownBlock = some g → w.heap.size ≤ g

theorem own : ownKnob Try.prog.godebug = none := by kernel_rfl

set_option maxHeartbeats 4000000 in
set_option maxRecDepth 100000 in
theorem walk (A : Option Addr) (n c : Nat) (f : Nat → Int) (A1 : Option Addr) (n1 c1 : Nat) (f1 : Nat → Int) (w : World) (hn : n ≤ c) (hc : c ≤ 9223372036854775807) (hi : IntsAt w A n f) (hn1 : n1 ≤ c1) (hc1 : c1 ≤ 9223372036854775807) (hi1 : IntsAt w A1 n1 f1) :
    Calls Try.prog 4 #[.slice A n c, .slice A1 n1 c1] w fun e w' => e = .returned (.bool true) ∧ Below w.heap.size w w' := by
  have conN := Lib.hid (newSt w 1000 (by omega) (by omega))
  unfold iv at conN
  have HI := Lib.hid hi
  have HI1 := Lib.hid hi1
  clear hi hi1
  go_enter Try.func4, Try.ntmps4
  go_wp2_with fail
  refine conN.out.mono ?_
  rintro e w1 ⟨p, m, V1, rfl, h1⟩
  have conM := Lib.hid (newSt w1 1000 (by omega) (by omega))
  unfold iv at conM
  have H1 := Lib.hid h1
  clear conN h1
  go_wp2_with fail
  refine conM.out.mono ?_
  rintro e w2 ⟨p', m', V2, rfl, h2⟩
  have h3 : PSt w w2 p m p' m' V1 V2 0 0 0 0 [] [] :=
    ⟨_, _, ⟨H1.out.keep h2.2.2.1, ⟨h2.1, fun k hk => Nat.le_trans H1.out.2.2.1.size (h2.2.1 k hk), H1.out.2.2.1.trans h2.2.2.1 (fun _ _ h => h), h2.2.2.2⟩, fun k hk hf => by
      have a1 := H1.out.1.foot_lt hk
      have a2 := h2.2.1 k hf
      omega⟩, ⟨rfl, rfl, rfl, rfl⟩, ⟨rfl, rfl, rfl, rfl⟩⟩
  have F1 : Hid (R1 w p m p' m' n (.int .i64 0) w2) := ⟨0, [], V1, V2, by omega, by omega, rfl, h3, rfl, fun t ht => by simp at ht⟩
  clear conM h2 h3 H1
  go_wp2_with fail
  go_loopw [9] (fun i wr => R1 w p m p' m' n i wr) (fun i _ => 1000 - (intOf i).toNat)
  case atStart => exact F1.out
  case round =>
    clear F1
    obtain ⟨k, L, V, V', hk, hkn, rfl, hp, hL, hat⟩ := hrel
    have HP := Lib.hid hp
    have HL := Lib.hid hL
    have HAT := Lib.hid hat
    clear hp hL hat
    by_cases hb : k < n
    · by_cases hb2 : k < 1000
      · obtain ⟨b, o, rfl, hbl, hcell⟩ := (HI.out.keep (p_kept HP.out)).2 (by omega)
        have hck := hcell k (by omega)
        have bf := HI.out.1 k (by omega)
        have P3 := Lib.hid (place_any (f k) 100000 wr bf.1 bf.2 (by omega) (by omega))
        have e0 : 0 ≤ f k % 100000 ∧ f k % 100000 < 100000 := by omega
        obtain ⟨d, hd⟩ : ∃ d : Nat, (d : Int) = f k % 100000 := ⟨(f k % 100000).toNat, by omega⟩
        rw [← hd] at e0 P3
        clear hcell hd bf
        have C3 := Lib.hid (p_start HP.out (by omega) HL.out (by omega) (1 + d) (by omega) (k : Int))
        have e1 : Hid (((1 + d : Nat) : Int) = 1 + (d : Int)) := by unfold Hid; omega
        rw [e1.out] at C3
        go_wp2_with fail
        refine P3.out.mono ?_
        rintro e w3 ⟨rfl, rfl⟩
        clear P3 hck
        go_wp2_with fail
        refine C3.out.mono ?_
        rintro e w3 ⟨rfl, V3, hp3⟩
        have C4 := Lib.hid (p_start hp3.swap (by omega) HL.out (by omega) (1 + d) (by omega) (k : Int))
        rw [e1.out] at C4
        clear hp3 C3
        go_wp2_with fail
        refine C4.out.mono ?_
        rintro e w4 ⟨rfl, V4, hp4⟩
        have hfin : R1 w p m p' m' n (.int .i64 ((k : Int) + 1)) w4 := ⟨k + 1, _, V3, V4, by omega, by omega, by go_num, hp4.swap, by rw [List.length_append, HL.out]; rfl, fun t ht => by
          rcases List.mem_append.1 ht with h | h
          · exact HAT.out t h
          · obtain rfl := List.mem_singleton.1 h; show 1 ≤ 0 + (1 + d); omega⟩
        have HF := Lib.hid hfin
        clear hfin hp4 C4 HP
        go_wp2_with fail
        exact ⟨HF.out, by simp [intOf]; omega⟩
      · have hb3 : ¬ (k : Int) < 1000 := by omega
        have F2 : Hid (R2 w p m p' m' k n1 L (.slice none 0 0) (.int .i64 0) (.int .i64 0) wr) := ⟨0, 0, V, V', by omega, by omega, by omega, rfl, rfl, by rw [live_zero L HAT.out]; exact HP.out, ⟨by rw [exp_zero L HAT.out]; exact Sl.nil wr, fun g hg => by simp [Value.ownBlock] at hg⟩, fun g hg => by simp [Value.ownBlock] at hg⟩
        have hkL : L.length ≤ 1000 := by rw [HL.out]; exact hk
        clear HP HL HAT
        go_wp2_with fail
        clear hb hb3
        go_loopw [15, 16, 17] (fun v s i wx => R2 w p m p' m' k n1 L v s i wx) (fun _ _ i _ => 50 - (intOf i).toNat)
        case atStart => exact F2.out
        case round =>
          clear F2
          obtain ⟨j, sum, Vx, Vy, hj, hjn, hsum, rfl, rfl, hp, hg, hv⟩ := hrel
          have HP := Lib.hid hp
          have HG := Lib.hid hg
          have HV := Lib.hid hv
          clear hp hg hv
          by_cases hb5 : j < n1
          · by_cases hb6 : j < 50
            · obtain ⟨b, o, rfl, hbl, hcell⟩ := (HI1.out.keep (p_kept HP.out)).2 (by omega)
              have hck := hcell j (by omega)
              have bf := HI1.out.1 j (by omega)
              have P3 := Lib.hid (place_any (f1 j) 10000 wr bf.1 bf.2 (by omega) (by omega))
              have e0 : 0 ≤ f1 j % 10000 ∧ f1 j % 10000 < 10000 := by omega
              obtain ⟨d, hd⟩ : ∃ d : Nat, (d : Int) = f1 j % 10000 := ⟨(f1 j % 10000).toNat, by omega⟩
              rw [← hd] at e0 P3
              clear hcell hd bf
              have C3 := Lib.hid (p_tick HP.out hk (by omega) u15 _ HG.out d (by omega))
              have KS := p_kept HP.out
              have KS1 := KS.size
              clear KS HP HG
              go_wp2_with fail
              refine P3.out.mono ?_
              rintro e w3 ⟨rfl, rfl⟩
              clear P3 hck
              go_wp2_with fail
              refine C3.out.mono ?_
              rintro e w3 ⟨V3, u, rfl, hp3, hg3, hu3, hvu⟩
              have HP3 := Lib.hid hp3
              have HG3 := Lib.hid hg3
              have HU3 := Lib.hid hu3
              have s1 := exp_short L 0 (sum + 1)
              have s2 := exp_short (L.filter (fun t => decide (sum < t.at_))) sum (d + 1)
              have s3 := List.length_filter_le (fun t : Tm => decide (sum < t.at_)) L
              clear hp3 hg3 hu3 hvu C3
              go_wp2_with (at_builtin
                           refine wp_append_sl rfl _ _ rfl _ _ _ _ w3 HG3.out.1 HU3.out.1 rfl rfl (by omega) ?_
                           intro v4 w4 a1 a2 a3
                           have A1' := Lib.hid a1
                           have A2' := Lib.hid a2
                           have A3' := Lib.hid a3
                           clear a1 a2 a3)
              have hfin : R2 w p m p' m' k n1 L v4 (.int .i64 ((sum : Int) + d)) (.int .i64 ((j : Int) + 1)) w4 := by
                obtain ⟨b1, b2⟩ := p_append HP3.out HG3.out A1'.out A2'.out A3'.out HV.out
                rw [live_parts] at b1
                rw [exp_parts] at b2
                refine ⟨j + 1, sum + d, V3, Vy, by omega, by omega, by omega, by go_num, by go_num, b1, b2, fun g hg => ?_⟩
                rcases A3'.out g hg with h | h
                · exact HV.out g h
                · have := (p_kept HP3.out).size; omega
              have HF := Lib.hid hfin
              clear hfin
              go_wp2_with fail
              exact ⟨HF.out, by simp [intOf]; omega⟩
            · have hb7 : ¬ (j : Int) < 50 := by omega
              have C3 := Lib.hid (p_tick HP.out.swap hk (by omega) u15 _ HG.out.swap sum (by omega))
              clear HP HG
              go_wp2_with fail
              refine C3.out.mono ?_
              rintro e w3 ⟨V3, u, rfl, hp3, hg3, hu3, hvu⟩
              have HP3 := Lib.hid hp3
              have HG3 := Lib.hid hg3
              have HU3 := Lib.hid hu3
              have s1 := exp_short L 0 (sum + 1)
              have e0 : Hid (0 + sum = sum) := Nat.zero_add _
              rw [e0.out] at HP3
              clear hp3 hg3 hu3 hvu C3
              go_wp2_with fail
              refine (same_c w3 u15 u _ HG3.out.1 HU3.out.1 (by omega)).mono ?_
              rintro e w4 ⟨rfl, hk4⟩
              have HP4 := Lib.hid (HP3.out.keep hk4)
              have N1 := Lib.hid (p_now HP4.out.swap)
              have N2 := Lib.hid (p_now HP4.out)
              have M1 := Lib.hid (p_len HP4.out.swap)
              have M2 := Lib.hid (p_len HP4.out)
              clear hk4 HP3 HG3 HU3
              go_wp2_with fail
              refine N1.out.mono ?_
              rintro e w5 ⟨rfl, rfl⟩
              go_wp2_with fail
              refine N2.out.mono ?_
              rintro e w6 ⟨rfl, rfl⟩
              go_wp2_with fail
              refine M1.out.mono ?_
              rintro e w7 ⟨rfl, rfl⟩
              go_wp2_with fail
              refine M2.out.mono ?_
              rintro e w8 ⟨rfl, rfl⟩
              go_wp2_with fail
              refine (awake_c _).mono ?_
              rintro e wA ⟨rfl, hkA⟩
              have K := Lib.hid ((p_kept HP4.out).trans hkA (fun _ _ h => h))
              clear hkA HP4 N1 N2 M1 M2
              go_wp2_with fail
              go_ret
              exact ⟨rfl, K.out.below (Nat.le_refl _) (fun _ _ h => h)⟩
          · have hb7 : ¬ (j : Int) < n1 := by omega
            have C3 := Lib.hid (p_tick HP.out.swap hk (by omega) u15 _ HG.out.swap sum (by omega))
            clear HP HG
            go_wp2_with fail
            refine C3.out.mono ?_
            rintro e w3 ⟨V3, u, rfl, hp3, hg3, hu3, hvu⟩
            have HP3 := Lib.hid hp3
            have HG3 := Lib.hid hg3
            have HU3 := Lib.hid hu3
            have s1 := exp_short L 0 (sum + 1)
            have e0 : Hid (0 + sum = sum) := Nat.zero_add _
            rw [e0.out] at HP3
            clear hp3 hg3 hu3 hvu C3
            go_wp2_with fail
            refine (same_c w3 u15 u _ HG3.out.1 HU3.out.1 (by omega)).mono ?_
            rintro e w4 ⟨rfl, hk4⟩
            have HP4 := Lib.hid (HP3.out.keep hk4)
            have N1 := Lib.hid (p_now HP4.out.swap)
            have N2 := Lib.hid (p_now HP4.out)
            have M1 := Lib.hid (p_len HP4.out.swap)
            have M2 := Lib.hid (p_len HP4.out)
            clear hk4 HP3 HG3 HU3
            go_wp2_with fail
            refine N1.out.mono ?_
            rintro e w5 ⟨rfl, rfl⟩
            go_wp2_with fail
            refine N2.out.mono ?_
            rintro e w6 ⟨rfl, rfl⟩
            go_wp2_with fail
            refine M1.out.mono ?_
            rintro e w7 ⟨rfl, rfl⟩
            go_wp2_with fail
            refine M2.out.mono ?_
            rintro e w8 ⟨rfl, rfl⟩
            go_wp2_with fail
            refine (awake_c _).mono ?_
            rintro e wA ⟨rfl, hkA⟩
            have K := Lib.hid ((p_kept HP4.out).trans hkA (fun _ _ h => h))
            clear hkA HP4 N1 N2 M1 M2
            go_wp2_with fail
            go_ret
            exact ⟨rfl, K.out.below (Nat.le_refl _) (fun _ _ h => h)⟩
    · have hb3 : ¬ (k : Int) < n := by omega
      have F2 : Hid (R2 w p m p' m' k n1 L (.slice none 0 0) (.int .i64 0) (.int .i64 0) wr) := ⟨0, 0, V, V', by omega, by omega, by omega, rfl, rfl, by rw [live_zero L HAT.out]; exact HP.out, ⟨by rw [exp_zero L HAT.out]; exact Sl.nil wr, fun g hg => by simp [Value.ownBlock] at hg⟩, fun g hg => by simp [Value.ownBlock] at hg⟩
      have hkL : L.length ≤ 1000 := by rw [HL.out]; exact hk
      clear HP HL HAT
      go_wp2_with fail
      clear hb hb3
      go_loopw [15, 16, 17] (fun v s i wx => R2 w p m p' m' k n1 L v s i wx) (fun _ _ i _ => 50 - (intOf i).toNat)
      case atStart => exact F2.out
      case round =>
        clear F2
        obtain ⟨j, sum, Vx, Vy, hj, hjn, hsum, rfl, rfl, hp, hg, hv⟩ := hrel
        have HP := Lib.hid hp
        have HG := Lib.hid hg
        have HV := Lib.hid hv
        clear hp hg hv
        by_cases hb5 : j < n1
        · by_cases hb6 : j < 50
          · obtain ⟨b, o, rfl, hbl, hcell⟩ := (HI1.out.keep (p_kept HP.out)).2 (by omega)
            have hck := hcell j (by omega)
            have bf := HI1.out.1 j (by omega)
            have P3 := Lib.hid (place_any (f1 j) 10000 wr bf.1 bf.2 (by omega) (by omega))
            have e0 : 0 ≤ f1 j % 10000 ∧ f1 j % 10000 < 10000 := by omega
            obtain ⟨d, hd⟩ : ∃ d : Nat, (d : Int) = f1 j % 10000 := ⟨(f1 j % 10000).toNat, by omega⟩
            rw [← hd] at e0 P3
            clear hcell hd bf
            have C3 := Lib.hid (p_tick HP.out hk (by omega) u15 _ HG.out d (by omega))
            have KS := p_kept HP.out
            have KS1 := KS.size
            clear KS HP HG
            go_wp2_with fail
            refine P3.out.mono ?_
            rintro e w3 ⟨rfl, rfl⟩
            clear P3 hck
            go_wp2_with fail
            refine C3.out.mono ?_
            rintro e w3 ⟨V3, u, rfl, hp3, hg3, hu3, hvu⟩
            have HP3 := Lib.hid hp3
            have HG3 := Lib.hid hg3
            have HU3 := Lib.hid hu3
            have s1 := exp_short L 0 (sum + 1)
            have s2 := exp_short (L.filter (fun t => decide (sum < t.at_))) sum (d + 1)
            have s3 := List.length_filter_le (fun t : Tm => decide (sum < t.at_)) L
            clear hp3 hg3 hu3 hvu C3
            go_wp2_with (at_builtin
                         refine wp_append_sl rfl _ _ rfl _ _ _ _ w3 HG3.out.1 HU3.out.1 rfl rfl (by omega) ?_
                         intro v4 w4 a1 a2 a3
                         have A1' := Lib.hid a1
                         have A2' := Lib.hid a2
                         have A3' := Lib.hid a3
                         clear a1 a2 a3)
            have hfin : R2 w p m p' m' k n1 L v4 (.int .i64 ((sum : Int) + d)) (.int .i64 ((j : Int) + 1)) w4 := by
              obtain ⟨b1, b2⟩ := p_append HP3.out HG3.out A1'.out A2'.out A3'.out HV.out
              rw [live_parts] at b1
              rw [exp_parts] at b2
              refine ⟨j + 1, sum + d, V3, Vy, by omega, by omega, by omega, by go_num, by go_num, b1, b2, fun g hg => ?_⟩
              rcases A3'.out g hg with h | h
              · exact HV.out g h
              · have := (p_kept HP3.out).size; omega
            have HF := Lib.hid hfin
            clear hfin
            go_wp2_with fail
            exact ⟨HF.out, by simp [intOf]; omega⟩
          · have hb7 : ¬ (j : Int) < 50 := by omega
            have C3 := Lib.hid (p_tick HP.out.swap hk (by omega) u15 _ HG.out.swap sum (by omega))
            clear HP HG
            go_wp2_with fail
            refine C3.out.mono ?_
            rintro e w3 ⟨V3, u, rfl, hp3, hg3, hu3, hvu⟩
            have HP3 := Lib.hid hp3
            have HG3 := Lib.hid hg3
            have HU3 := Lib.hid hu3
            have s1 := exp_short L 0 (sum + 1)
            have e0 : Hid (0 + sum = sum) := Nat.zero_add _
            rw [e0.out] at HP3
            clear hp3 hg3 hu3 hvu C3
            go_wp2_with fail
            refine (same_c w3 u15 u _ HG3.out.1 HU3.out.1 (by omega)).mono ?_
            rintro e w4 ⟨rfl, hk4⟩
            have HP4 := Lib.hid (HP3.out.keep hk4)
            have N1 := Lib.hid (p_now HP4.out.swap)
            have N2 := Lib.hid (p_now HP4.out)
            have M1 := Lib.hid (p_len HP4.out.swap)
            have M2 := Lib.hid (p_len HP4.out)
            clear hk4 HP3 HG3 HU3
            go_wp2_with fail
            refine N1.out.mono ?_
            rintro e w5 ⟨rfl, rfl⟩
            go_wp2_with fail
            refine N2.out.mono ?_
            rintro e w6 ⟨rfl, rfl⟩
            go_wp2_with fail
            refine M1.out.mono ?_
            rintro e w7 ⟨rfl, rfl⟩
            go_wp2_with fail
            refine M2.out.mono ?_
            rintro e w8 ⟨rfl, rfl⟩
            go_wp2_with fail
            refine (awake_c _).mono ?_
            rintro e wA ⟨rfl, hkA⟩
            have K := Lib.hid ((p_kept HP4.out).trans hkA (fun _ _ h => h))
            clear hkA HP4 N1 N2 M1 M2
            go_wp2_with fail
            go_ret
            exact ⟨rfl, K.out.below (Nat.le_refl _) (fun _ _ h => h)⟩
        · have hb7 : ¬ (j : Int) < n1 := by omega
          have C3 := Lib.hid (p_tick HP.out.swap hk (by omega) u15 _ HG.out.swap sum (by omega))
          clear HP HG
          go_wp2_with fail
          refine C3.out.mono ?_
          rintro e w3 ⟨V3, u, rfl, hp3, hg3, hu3, hvu⟩
          have HP3 := Lib.hid hp3
          have HG3 := Lib.hid hg3
          have HU3 := Lib.hid hu3
          have s1 := exp_short L 0 (sum + 1)
          have e0 : Hid (0 + sum = sum) := Nat.zero_add _
          rw [e0.out] at HP3
          clear hp3 hg3 hu3 hvu C3
          go_wp2_with fail
          refine (same_c w3 u15 u _ HG3.out.1 HU3.out.1 (by omega)).mono ?_
          rintro e w4 ⟨rfl, hk4⟩
          have HP4 := Lib.hid (HP3.out.keep hk4)
          have N1 := Lib.hid (p_now HP4.out.swap)
          have N2 := Lib.hid (p_now HP4.out)
          have M1 := Lib.hid (p_len HP4.out.swap)
          have M2 := Lib.hid (p_len HP4.out)
          clear hk4 HP3 HG3 HU3
          go_wp2_with fail
          refine N1.out.mono ?_
          rintro e w5 ⟨rfl, rfl⟩
          go_wp2_with fail
          refine N2.out.mono ?_
          rintro e w6 ⟨rfl, rfl⟩
          go_wp2_with fail
          refine M1.out.mono ?_
          rintro e w7 ⟨rfl, rfl⟩
          go_wp2_with fail
          refine M2.out.mono ?_
          rintro e w8 ⟨rfl, rfl⟩
          go_wp2_with fail
          refine (awake_c _).mono ?_
          rintro e wA ⟨rfl, hkA⟩
          have K := Lib.hid ((p_kept HP4.out).trans hkA (fun _ _ h => h))
          clear hkA HP4 N1 N2 M1 M2
          go_wp2_with fail
          go_ret
          exact ⟨rfl, K.out.below (Nat.le_refl _) (fun _ _ h => h)⟩

set_option maxRecDepth 100000 in
theorem lifted (os : Os) (started : os.Started) (H : Type) (enc : TypeId × Value → H) :
    ReturnsInHanded {} Try.checked os 4 .any (Rows.wheelPartsSpec.pre6 enc Try.prog Try.f4 Rows.wheelPartsRow.domain false) (Rows.wheelPartsSpec.post enc Try.prog Try.f4 false true false false) := by
  refine returnsInHanded_of_change (C := Try.checked) own started (by kernel_rfl) Try.func4
    (ChangeSpec.witness6 (enc := enc) (C := Try.checked) false ⟨#[], #[.slice none 0 0, .slice none 0 0], []⟩ 8 (by kernel_rfl) (by kernel_rfl) (by kernel_rfl) (by kernel_rfl)) ?_
  intro W base args ds gs before hval0 hW hcnd _
  have hval : ∀ (j : Nat) t v, Try.f4.params[j]? = some t → args[j]? = some v → Value.okWide Try.prog W .any base t v := hval0
  have hW' := hW
  obtain ⟨p, q, hA0, hV, rfl, hfz, hnd⟩ := hW
  have hA : DataW.TrodAll enc Try.prog W 0 (fun _ => true) true Try.f4.params.toList args.toList ds p := hA0
  rw [Try.params4] at hA hval
  obtain ⟨v0, vs0, d0, ds0, p0, q0, hargs, rfl, rfl, h0, r0⟩ := trodAll_cons hA
  obtain ⟨v1, vs1, d1, ds1, p1, q1, rfl, rfl, rfl, h1, r1⟩ := trodAll_cons r0
  obtain ⟨rfl, rfl, rfl⟩ := trodAll_nil r1
  obtain rfl : args = #[v0, v1] := by cases args; simp_all
  obtain ⟨A0, n0, c0, f0, rfl, hn0, hc0, hz0, hi0⟩ := ints_open Try.underlying22 (hval 0 22 v0 rfl rfl) h0
  obtain ⟨A1, n1, c1, f1, rfl, hn1, hc1, hz1, hi1⟩ := ints_open Try.underlying22 (hval 1 22 v1 rfl rfl) h1
  refine (walk A0 n0 c0 f0 A1 n1 c1 f1 W hn0 hc0 hi0 hn1 hc1 hi1).mono fun e W' ⟨he, hg⟩ => ?_
  subst he
  exact ⟨_, rfl, LawKit.law_post (tb := 4) (by kernel_rfl) Try.underlying4 rfl (by kernel_rfl) rfl hW' ⟨rfl, rfl, rfl⟩ hg⟩

theorem over : Rows.wheelPartsRow.holds Try.pinned (OpenSpec.ofChange Rows.wheelPartsSpec) :=
  OpenClaim.holds_of_wide 4 Try.f4 rfl rfl rfl rfl rfl rfl rfl ⟨rfl, rfl, rfl, rfl, rfl⟩ rfl rfl rfl rfl rfl (by kernel_rfl) Try.func4 (by kernel_rfl)
    (of_decide_eq_true (by kernel_rfl)) (by unfold Func.isWrapper; first | (rw [if_pos (by decide +kernel)]; kernel_rfl) | (rw [if_neg (by decide +kernel)]; exact ⟨rfl, rfl⟩))
    (fun os started H enc _ => lifted os started H enc)

theorem proved : Rows.WheelPartsSaid :=
  over
#print axioms proved
end Go.Proofs.Ytlbdfhbkemikgaa.wheelParts

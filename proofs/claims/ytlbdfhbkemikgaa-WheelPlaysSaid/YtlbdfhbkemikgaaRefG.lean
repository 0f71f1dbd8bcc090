/- The document's wheel: Tick. -/
import Derived.Test.YtlbdfhbkemikgaaRefF
import Derived.Test.YtlbdfhbkemikgaaExpKit
import Derived.Deep.CutBlock
import Derived.Deep.DeepCutAuto
set_option linter.unusedVariables false
set_option linter.unusedSimpArgs false
namespace Go.Proofs.Ytlbdfhbkemikgaa
open Go.RowKit Plain wheelExpires

/-! ### plain -/
theorem expT_add (L : List Tm) (a k : Nat) : ∀ k', expT L a (k + k') = expT L a k ++ expT L (a + k) k'
  | 0 => by simp [expT]
  | k' + 1 => by
    rw [← Nat.add_assoc, expT_succ, expT_add L a k k', expT_succ, List.append_assoc, Nat.add_assoc]
theorem expT_skip (L : List Tm) (t : Tm) (a : Nat) : ∀ k, (t.at_ < a ∨ a + k ≤ t.at_) → expT (L ++ [t]) a k = expT L a k
  | 0, _ => by simp [expT]
  | k + 1, h => by
    rw [expT_succ, expT_succ, expT_skip L t a k (by omega), List.filter_append]
    have : [t].filter (fun t => decide (t.at_ = a + k)) = [] := by simp; omega
    rw [this, List.append_nil]
theorem expT_ins (L : List Tm) (t : Tm) (now d : Nat) (h1 : now ≤ t.at_) (h2 : t.at_ ≤ now + d) :
    expT (L ++ [t]) now (d + 1) = expT L now (t.at_ - now + 1) ++ (t :: expT L (t.at_ + 1) (now + d - t.at_)) ∧
    expT L now (d + 1) = expT L now (t.at_ - now + 1) ++ expT L (t.at_ + 1) (now + d - t.at_) := by
  have e1 : d + 1 = (t.at_ - now + 1) + (now + d - t.at_) := by omega
  have e2 : now + (t.at_ - now + 1) = t.at_ + 1 := by omega
  constructor
  · rw [e1, expT_add, e2, expT_skip L t (t.at_ + 1) _ (by omega), expT_succ, expT_skip L t now _ (by omega), List.filter_append]
    have e3 : [t].filter (fun u => decide (u.at_ = now + (t.at_ - now))) = [t] := by simp; omega
    rw [e3, expT_succ]
    simp
  · conv => lhs; rw [e1, expT_add, e2]

/-- at which place of the row a timer goes. -/
def spot (L : List Tm) (now : Nat) (t : Tm) : Nat := (expT L now (t.at_ - now + 1)).length

theorem spot_facts {L : List Tm} {i : Nat} {t : Tm} (hi : (ids L).Pairwise (· < ·)) (ht : L[i]? = some t) (now d : Nat) (h1 : now ≤ t.at_) (h2 : t.at_ ≤ now + d) :
    spot (L.take i) now t ≤ (expT (L.take i) now (d + 1)).length ∧
    expT (L.take (i + 1)) now (d + 1) = (expT (L.take i) now (d + 1)).take (spot (L.take i) now t) ++ (t :: (expT (L.take i) now (d + 1)).drop (spot (L.take i) now t)) ∧
    (∀ k e, (expT (L.take i) now (d + 1))[k]? = some e → spot (L.take i) now t ≤ k → t.at_ < e.at_) ∧
    (∀ k e, (expT (L.take i) now (d + 1))[k]? = some e → k < spot (L.take i) now t → e.at_ ≤ t.at_ ∧ e.id < t.id) := by
  obtain ⟨e1, e2⟩ := expT_ins (L.take i) t now d h1 h2
  obtain ⟨hil, rfl⟩ := List.getElem?_eq_some_iff.1 ht
  have e3 : L.take (i + 1) = L.take i ++ [L[i]] := List.take_succ_eq_append_getElem hil
  have hp : L.Pairwise (fun s t => s.id < t.id) := List.pairwise_map.1 hi
  have hlt : ∀ s ∈ L.take i, s.id < L[i].id := fun s hs => by
    obtain ⟨j, hj⟩ := List.getElem?_of_mem hs
    have hji : j < i := by have := (List.getElem?_eq_some_iff.1 hj).1; simp at this; omega
    rw [List.getElem?_take_of_lt hji] at hj
    obtain ⟨h3, rfl⟩ := List.getElem?_eq_some_iff.1 hj
    exact List.pairwise_iff_getElem.1 hp j i h3 hil hji
  unfold spot
  rw [e3, e1, e2]
  generalize hA : expT (L.take i) now (L[i].at_ - now + 1) = A
  generalize hB : expT (L.take i) (L[i].at_ + 1) (now + d - L[i].at_) = B
  refine ⟨by simp, by simp, fun k e hk hle => ?_, fun k e hk hlt' => ?_⟩
  · rw [List.getElem?_append_right hle] at hk
    have := List.mem_of_getElem? hk
    rw [← hB] at this
    have := (expT_mem.1 this).2.1
    omega
  · rw [List.getElem?_append_left hlt'] at hk
    have := List.mem_of_getElem? hk
    rw [← hA] at this
    obtain ⟨m1, m2, m3⟩ := expT_mem.1 this
    exact ⟨by omega, hlt e m1⟩

theorem rest_succ {L : List Tm} {i : Nat} {t : Tm} (ht : L[i]? = some t) (x : Nat) : (L.take (i + 1)).filter (fun u => decide (x < u.at_)) = if x < t.at_ then (L.take i).filter (fun u => decide (x < u.at_)) ++ [t] else (L.take i).filter (fun u => decide (x < u.at_)) := by
  obtain ⟨hil, rfl⟩ := List.getElem?_eq_some_iff.1 ht
  rw [List.take_succ_eq_append_getElem hil, List.filter_append]
  split <;> rename_i c <;> simp [List.filter_cons, c]

theorem expT_late {L : List Tm} {i : Nat} {t : Tm} (ht : L[i]? = some t) (now d : Nat) (h : now + d < t.at_) : expT (L.take (i + 1)) now (d + 1) = expT (L.take i) now (d + 1) := by
  obtain ⟨hil, rfl⟩ := List.getElem?_eq_some_iff.1 ht
  rw [List.take_succ_eq_append_getElem hil]
  exact expT_skip _ _ _ _ (by omega)

/-! ### the walk -/
theorem own_len (A : Option Addr) (n c n' c' : Nat) : (Value.slice A n c).ownBlock = (Value.slice A n' c').ownBlock := by cases A <;> rfl

theorem exp_short'' (L : List Tm) (a k : Nat) : (expT L a k).length ≤ L.length := short_T L a k

/-- at the head of a round. 'w': ahead of the call. -/
structure TR (w : World) (b : Nat) (v : Value) (M now next d : Nat) (L : List Tm) (i : Nat) (o r : Value) (wr : World) : Prop where
  wh : RW wr b v M (now + d) next L
  out : LT wr o (expT (L.take i) now (d + 1))
  rest : LT wr r ((L.take i).filter (fun u => decide (now + d < u.at_)))
  keep : Keep (fun k => k = b) w wr
  ov : ∀ g, o.ownBlock = some g → w.heap.size ≤ g ∧ r.ownBlock ≠ some g
  rv : ∀ g, r.ownBlock = some g → w.heap.size ≤ g
  lt : footR b v b ∧ ∀ k, footR b v k → k < w.heap.size

def RRel (w : World) (b : Nat) (v : Value) (M now next d : Nat) (L : List Tm) (o r i : Value) (wr : World) : Prop :=
  ∃ k : Nat, k ≤ L.length ∧ i = .int .i64 (k : Int) ∧ TR w b v M now next d L k o r wr

def RetRT (w : World) (b : Nat) (M now next d : Nat) (L : List Tm) (e : Ending) (w' : World) : Prop :=
  ∃ u v', e = .returned u ∧ LT w' u (expT L now (d + 1)) ∧ RW w' b v' M (now + d) next (L.filter (fun t => decide (now + d < t.at_))) ∧ Keep (fun k => k = b) w w' ∧ (∀ g, u.ownBlock = some g → w.heap.size ≤ g) ∧ (∀ g, v'.ownBlock = some g → w.heap.size ≤ g)

theorem LT.drewN {w : World} {v : Value} {L : List Tm} (h : LT w v L) (n : Nat) : LT (w.drewN n) v L := h
theorem TR.drewN {w : World} {b : Nat} {v : Value} {M now next d : Nat} {L : List Tm} {i : Nat} {o r : Value} {wr : World} (h : TR w b v M now next d L i o r wr) (n : Nat) : TR w b v M now next d L i o r (wr.drewN n) :=
  ⟨h.wh.same (fun _ _ => rfl), h.out, h.rest, h.keep.drewN n, h.ov, h.rv, h.lt⟩

theorem TR.grown {w : World} {b : Nat} {v : Value} {M now next d : Nat} {L : List Tm} {i : Nat} {o r : Value} {wr w' : World} (h : TR w b v M now next d L i o r wr) {X : Option Nat} (hg : wr.grownBy w' X) (hX : ∀ g, X = some g → w.heap.size ≤ g) :
    RW w' b v M (now + d) next L ∧ Keep (fun k => k = b) w w' ∧ ∀ (u : Value) (L' : List Tm), LT wr u L' → (∀ g, u.ownBlock = some g → X ≠ some g) → LT w' u L' := by
  refine ⟨h.wh.same (fun k hk => hg.block k (h.wh.foot_lt hk) (fun e => ?_)), h.keep.grown hg (fun k e hk => ?_), fun u L' hu hne => hu.of_block (fun g hg' => hg.block g (hu.lt hg') (fun e => hne g hg' e.symm))⟩
  · have h1 := h.lt.2 k hk
    have h2 := hX k e.symm
    omega
  · have := hX k e
    omega

/-- a later one goes to the rest. -/
theorem TR.later {w : World} {b : Nat} {v : Value} {M now next d : Nat} {L : List Tm} {i : Nat} {o r r' : Value} {wr w' : World} {t : Tm} (h : TR w b v M now next d L i o r wr) (ht : L[i]? = some t) (hl : now + d < t.at_)
    (hg : wr.grownBy w' r.ownBlock) (hr : LRow w' 57 3 r' (((L.take i).filter (fun u => decide (now + d < u.at_))).length + 1) (tcs ((L.take i).filter (fun u => decide (now + d < u.at_))) ++ tcs [t])) (ho : ∀ g, r'.ownBlock = some g → r.ownBlock = some g ∨ wr.heap.size ≤ g) :
    TR w b v M now next d L (i + 1) o r' w' := by
  obtain ⟨a1, a2, a3⟩ := h.grown hg h.rv
  have e2 := rest_succ ht (now + d)
  rw [if_pos hl] at e2
  refine ⟨a1, by rw [expT_late ht now d hl]; exact a3 o _ h.out (fun g hg' => (h.ov g hg').2), ?_, a2, fun g hg' => ⟨(h.ov g hg').1, fun e => ?_⟩, fun g hg' => ?_, h.lt⟩
  · unfold LT
    rw [e2, tcs_append, List.length_append]
    exact hr
  · rcases ho g e with h1 | h1
    · exact (h.ov g hg').2 h1
    · have := h.out.lt hg'; omega
  · rcases ho g hg' with h1 | h1
    · exact h.rv g h1
    · exact Nat.le_trans h.keep.size h1

/-- one that expires goes to its place. -/
theorem TR.sooner {w : World} {b : Nat} {v : Value} {M now next d : Nat} {L : List Tm} {i : Nat} {o r o' : Value} {wr w1 w' : World} {X : Option Nat} {t : Tm} (h : TR w b v M now next d L i o r wr) (hi : (ids L).Pairwise (· < ·)) (ht : L[i]? = some t) (hn : now ≤ t.at_) (hl : t.at_ ≤ now + d)
    (hg1 : wr.grownBy w1 X) (hX : ∀ g, X = some g → wr.heap.size ≤ g) (hg : w1.grownBy w' o.ownBlock)
    {m : Nat} (hr : LRow w' 57 3 o' m (tcs ((expT (L.take i) now (d + 1)).take (spot (L.take i) now t)) ++ tcs (t :: (expT (L.take i) now (d + 1)).drop (spot (L.take i) now t)))) (hm : m = (expT (L.take i) now (d + 1)).length + 1) (ho : ∀ g, o'.ownBlock = some g → o.ownBlock = some g ∨ wr.heap.size ≤ g) :
    TR w b v M now next d L (i + 1) o' r w' := by
  obtain ⟨a1, a2, a3⟩ := h.grown hg1 (fun g hg' => Nat.le_trans h.keep.size (hX g hg'))
  have hr1 : LT w1 r ((L.take i).filter (fun u => decide (now + d < u.at_))) := a3 r _ h.rest (fun g hg' e => by have := hX g e; have := h.rest.lt hg'; omega)
  have e2 := rest_succ ht (now + d)
  rw [if_neg (by omega)] at e2
  obtain ⟨s1, s2, _, _⟩ := spot_facts hi ht now d hn hl
  refine ⟨a1.same (fun k hk => hg.block k (a1.foot_lt hk) (fun e => ?_)), ?_, ?_, a2.grown hg (fun k e hk => ?_), fun g hg' => ⟨?_, fun e => ?_⟩, h.rv, h.lt⟩
  · have h1 := h.lt.2 k hk
    have h2 := (h.ov k e.symm).1
    omega
  · unfold LT
    rw [s2, tcs_append, show ((expT (L.take i) now (d + 1)).take (spot (L.take i) now t) ++ (t :: (expT (L.take i) now (d + 1)).drop (spot (L.take i) now t))).length = m by rw [hm]; simp; omega]
    exact hr
  · rw [e2]
    exact hr1.of_block (fun g hg' => hg.block g (hr1.lt hg') (fun e => (h.ov g e.symm).2 hg'))
  · have := (h.ov k e).1; omega
  · rcases ho g hg' with h1 | h1
    · exact (h.ov g h1).1
    · exact Nat.le_trans h.keep.size h1
  · rcases ho g hg' with h1 | h1
    · exact (h.ov g h1).2 e
    · have := h.rest.lt e; omega

set_option maxHeartbeats 4000000 in
set_option maxRecDepth 100000 in
theorem rtick_c (w : World) (b : Nat) (v : Value) (M now next : Nat) (L : List Tm) (h : RW w b v M now next L) (hL : L.length < 1000000000) (hi : (ids L).Pairwise (· < ·)) (hat : ∀ t ∈ L, now ≤ t.at_ ∧ t.at_ < 2000000000000) (hn : now < 1000000000000) (n : Int) (hn0 : -9223372036854775808 ≤ n) (hn1 : n ≤ 9223372036854775807) (d : Nat) (hd : (d : Int) = min (max n 0) 1048576) :
    Calls Try.prog 26 #[.pointer (some ⟨b, 0, none⟩), .int .i64 n] w (RetRT w b M now next d L) := by
  obtain ⟨i0, hi0, hz0, hz1, hz2⟩ := info_parts Try.tInfo
  have k1 : w.cell? ⟨b, 1, none⟩ = some (.int .i64 now) := h.row.cell 1
  have fr := h.row.free
  have blt := h.row.lt
  have wr0 : IntKind.i64.wrap ((now : Int) + d) = (now : Int) + d := wrap64 (by omega) (by omega)
  have hT0 : TR w b v M now next d L 0 (.slice none 0 0) (.slice none 0 0) (w.setCell ⟨b, 1, none⟩ (.int .i64 ((now : Int) + d))) := by
    refine ⟨⟨?_, h.ts.of_block (fun g hg => Below.heap_setCell w _ _ g (h.ne hg))⟩, ?_, ?_, (Keep.refl (fun k => k = b) w).setCell (fun _ => rfl) _, fun g hg => by simp [Value.ownBlock] at hg, fun g hg => by simp [Value.ownBlock] at hg, .inl rfl, fun k hk => h.foot_lt hk⟩
    · have := h.row.put 1 (.int .i64 ((now : Int) + d))
      simpa using this
    · have e : expT (L.take 0) now (d + 1) = [] := by unfold expT; simp
      rw [e]; exact LT.nil _
    · exact LT.nil _
  have T0 := Lib.hid hT0
  have HI := Lib.hid hi
  have HAT := Lib.hid hat
  obtain ⟨A, c, rfl, hc1, hc2, _, _, hp⟩ := h.ts.shape
  have HP := Lib.hid hp
  clear hT0 hi hat h hp
  have hd' : d ≤ 1048576 := by omega
  have HD := Lib.hid hd
  clear hd
  go_enter Try.func26, Try.ntmps26
  go_upto_if 10 with (fail)
  go_cut [1] (fun s wx => s = .int .i64 (max n 0) ∧ w = wx)
  case first =>
    go_wp2_with fail
    all_goals (go_meet; exact ⟨congrArg (Value.int .i64) (by omega), rfl⟩)
  case rest =>
  obtain ⟨rfl, rfl⟩ := hcut
  go_upto_if 12 with (fail)
  go_cut [1] (fun s wx => s = .int .i64 (d : Int) ∧ w = wx)
  case first =>
    have HD' := HD.out
    go_wp2_with fail
    all_goals (go_meet; exact ⟨congrArg (Value.int .i64) (by omega), rfl⟩)
  case rest =>
  obtain ⟨rfl, rfl⟩ := hcut
  go_wp2_with fail
  go_loopw [5, 6, 7] (fun o r i wr => RRel w b (.slice A L.length c) M now next d L o r i wr) (fun _ _ i _ => L.length - (intOf i).toNat)
  case atStart => exact ⟨0, Nat.zero_le _, rfl, T0.out⟩
  case round =>
    clear T0
    obtain ⟨k, hk, rfl, ht⟩ := hrel
    have T := Lib.hid ht
    have k3 : wr.cell? ⟨b, 3, none⟩ = some (.slice A L.length c) := ht.wh.row.cell 3
    have k1 : wr.cell? ⟨b, 1, none⟩ = some (.int .i64 ((now : Int) + d)) := ht.wh.row.cell 1
    have fr := ht.wh.row.free
    obtain ⟨Ao, co, e5, ho1, ho2, _, _, hop⟩ := ht.out.shape
    obtain ⟨Ar, cr, e6, hr1, hr2, _, _, hrp⟩ := ht.rest.shape
    have HO := Lib.hid hop
    subst e5
    subst e6
    clear ht hop hrp
    by_cases hkl : k < L.length
    · obtain ⟨t, ht⟩ : ∃ t, L[k]? = some t := ⟨_, List.getElem?_eq_getElem hkl⟩
      obtain ⟨g, rfl⟩ := HP.out (by omega)
      have htm := HAT.out t (List.mem_of_getElem? ht)
      have c0 : wr.cell? ⟨g, k * 3, none⟩ = some (.int .i64 (t.id : Int)) := T.out.wh.ts.cell (tcs_get ht).1
      have c1 : wr.cell? ⟨g, k * 3 + 1, none⟩ = some (.int .i64 (t.at_ : Int)) := T.out.wh.ts.cell (tcs_get ht).2.1
      have c2 : wr.cell? ⟨g, k * 3 + 2, none⟩ = some (.int .i64 t.what) := T.out.wh.ts.cell (tcs_get ht).2.2
      have gi : (k : Int) < (L.length : Int) := by omega
      have ga := htm.1
      have gb := htm.2
      have HTK := Lib.hid ht
      clear ht htm
      have nE := exp_short'' (L.take k) now (d + 1)
      have nR := List.length_filter_le (fun u : Tm => decide (now + d < u.at_)) (L.take k)
      have nK : (L.take k).length ≤ L.length := by simp; omega
      by_cases hlate : now + d < t.at_
      · have d3 : decide ((t.at_ : Int) > (now : Int) + d) = true := decide_eq_true (by omega)
        go_wp2_with fail
        go_quiet (fail)
        obtain ⟨W, hW⟩ : ∃ W, wr.drewN nq = W := ⟨_, rfl⟩
        have TW : Hid (TR w b (.slice (some ⟨g, 0, none⟩) L.length c) M now next d L k (.slice Ao (expT (L.take k) now (d + 1)).length co) (.slice Ar ((L.take k).filter (fun u => decide (now + d < u.at_))).length cr) W) := by unfold Hid; rw [← hW]; exact T.out.drewN nq
        rw [hW]
        clear T k3 k1 c0 c1 c2 fr hW
        have k3 : W.cell? ⟨b, 3, none⟩ = some (.slice (some ⟨g, 0, none⟩) L.length c) := TW.out.wh.row.cell 3
        have c0 : W.cell? ⟨g, k * 3, none⟩ = some (.int .i64 (t.id : Int)) := TW.out.wh.ts.cell (tcs_get HTK.out).1
        have c1 : W.cell? ⟨g, k * 3 + 1, none⟩ = some (.int .i64 (t.at_ : Int)) := TW.out.wh.ts.cell (tcs_get HTK.out).2.1
        have c2 : W.cell? ⟨g, k * 3 + 2, none⟩ = some (.int .i64 t.what) := TW.out.wh.ts.cell (tcs_get HTK.out).2.2
        have HC : Hid (∀ x, LRow (W.alloc x) 57 3 (.slice Ar ((L.take k).filter (fun u => decide (now + d < u.at_))).length cr) ((L.take k).filter (fun u => decide (now + d < u.at_))).length (tcs ((L.take k).filter (fun u => decide (now + d < u.at_))))) := fun x => TW.out.rest.of_block (fun g hg => Below.heap_alloc W _ g (TW.out.rest.lt hg))
        have HR : Hid (Src (W.alloc (.cells #[.int .i64 (t.id : Int), .int .i64 (t.at_ : Int), .int .i64 t.what] 57)) 3 (some ⟨W.heap.size, 0, none⟩) 1 (tcs [t])) := by
          refine ⟨rfl, fun _ => ⟨_, rfl, fun j u hu => ?_⟩⟩
          have hr : Row (W.alloc (.cells #[.int .i64 (t.id : Int), .int .i64 (t.at_ : Int), .int .i64 t.what] 57)) W.heap.size 57 #[.int .i64 (t.id : Int), .int .i64 (t.at_ : Int), .int .i64 t.what] := Row.new W 57 _
          rw [addr_add0, Nat.zero_add, hr.cell j]
          simpa [tcs, tc] using hu
        go_wp2_with (at_builtin
                     refine wpList_append_loose (W.alloc (.cells #[.int .i64 (t.id : Int), .int .i64 (t.at_ : Int), .int .i64 t.what] 57)) (by rfl) (.tmp 43) (.tmp 51) 60 (by rfl) 57 i0 (.agg #[.int .i64 0, .int .i64 0, .int .i64 0]) 3 24 Try.underlying60 hi0 hz0 hz1 hz2 (by rfl) (by omega) (.slice Ar ((L.take k).filter (fun u => decide (now + d < u.at_))).length cr) ((L.take k).filter (fun u => decide (now + d < u.at_))).length (tcs ((L.take k).filter (fun u => decide (now + d < u.at_)))) (by rfl) (HC.out _) (some ⟨W.heap.size, 0, none⟩) 1 1 (tcs [t]) (by rfl) HR.out (tcs_one _) (by unfold maxLen; omega) (by omega) ?_
                     intro v4 w4 a1 a2 a3
                     obtain ⟨A4, d4, rfl, _⟩ := a1.shape
                     have A1' := Lib.hid a1
                     have A2' := Lib.hid a2
                     have A3' := Lib.hid a3
                     clear a1 a2 a3)
        have fin := TW.out.later (w' := w4) (r' := .slice A4 (((L.take k).filter (fun u => decide (now + d < u.at_))).length + 1) d4) HTK.out hlate ((World.grownBy_alloc W _ _).trans A2'.out) A1'.out (fun g hg => (A3'.out g hg).imp (fun h => h) (fun h => by simp at h; omega))
        have FIN := Lib.hid fin
        clear fin
        exact ⟨⟨k + 1, by omega, by go_num, FIN.out⟩, by simp [intOf]; omega⟩
      · have d3 : decide ((t.at_ : Int) > (now : Int) + d) = false := decide_eq_false (by omega)
        obtain ⟨s1, s2, s3, s4⟩ := spot_facts HI.out HTK.out now d ga (by omega)
        have S2 := Lib.hid s2
        have S3 := Lib.hid s3
        have S4 := Lib.hid s4
        have HTC := Lib.hid (tcs_get HTK.out)
        clear s2 s3 s4
        generalize hsp : spot (L.take k) now t = sp at s1 S2 S3 S4
        have HSP := Lib.hid hsp
        clear hsp
        generalize hE : expT (L.take k) now (d + 1) = E at *
        have HE := Lib.hid hE
        clear hE
        go_wp2_with fail
        go_quiet (fail)
        obtain ⟨W, hW⟩ : ∃ W, wr.drewN nq = W := ⟨_, rfl⟩
        have TW : Hid (TR w b (.slice (some ⟨g, 0, none⟩) L.length c) M now next d L k (.slice Ao E.length co) (.slice Ar ((L.take k).filter (fun u => decide (now + d < u.at_))).length cr) W) := by unfold Hid; rw [← hW]; exact T.out.drewN nq
        rw [hW]
        clear T k3 k1 c0 c1 c2 fr hW
        go_upto_block 2 with fail
        go_cut [8] (fun q wx => q = .int .i64 (sp : Int) ∧ TR w b (.slice (some ⟨g, 0, none⟩) L.length c) M now next d L k (.slice Ao E.length co) (.slice Ar ((L.take k).filter (fun u => decide (now + d < u.at_))).length cr) wx)
        case first =>
          go_wp2_with fail
          go_loopw [8] (fun q wx => ∃ q' : Nat, sp ≤ q' ∧ q' ≤ E.length ∧ q = .int .i64 (q' : Int) ∧ TR w b (.slice (some ⟨g, 0, none⟩) L.length c) M now next d L k (.slice Ao E.length co) (.slice Ar ((L.take k).filter (fun u => decide (now + d < u.at_))).length cr) wx) (fun q _ => (intOf q).toNat)
          case atStart => exact ⟨E.length, s1, Nat.le_refl _, rfl, TW.out⟩
          case round =>
            clear TW
            obtain ⟨q, hq1, hq2, rfl, htw⟩ := hrel
            obtain ⟨W, rfl⟩ : ∃ W : World, W = wr := ⟨_, rfl⟩
            have TW := Lib.hid htw
            have hrow : LRow W 57 3 (.slice Ao E.length co) E.length (tcs E) := by have := htw.out; unfold LT at this; rw [HE.out] at this; exact this
            have HROW := Lib.hid hrow
            have k3 : W.cell? ⟨b, 3, none⟩ = some (.slice (some ⟨g, 0, none⟩) L.length c) := htw.wh.row.cell 3
            have c0 : W.cell? ⟨g, k * 3, none⟩ = some (.int .i64 (t.id : Int)) := htw.wh.ts.cell HTC.out.1
            have c1 : W.cell? ⟨g, k * 3 + 1, none⟩ = some (.int .i64 (t.at_ : Int)) := htw.wh.ts.cell HTC.out.2.1
            have c2 : W.cell? ⟨g, k * 3 + 2, none⟩ = some (.int .i64 t.what) := htw.wh.ts.cell HTC.out.2.2
            clear htw hrow
            by_cases hqs : sp < q
            · obtain ⟨q1, rfl⟩ : ∃ q1, q = q1 + 1 := ⟨q - 1, by omega⟩
              obtain ⟨go, rfl⟩ := HO.out (by omega)
              obtain ⟨e, he⟩ : ∃ e, E[q1]? = some e := ⟨_, List.getElem?_eq_getElem (by omega)⟩
              have hlt := S3.out q1 e he (by omega)
              have x1 : W.cell? ⟨go, q1 * 3 + 1, none⟩ = some (.int .i64 (e.at_ : Int)) := HROW.out.cell (tcs_get he).2.1
              have d4 : decide ((e.at_ : Int) > (t.at_ : Int)) = true := decide_eq_true (by omega)
              have g1 : (q1 : Int) < (E.length : Int) := by omega
              have g0 : (0 : Int) ≤ (q1 : Int) := by omega
              have dq : decide ((q1 : Int) + 1 > 0) = true := decide_eq_true (by omega)
              clear he
              go_wp2_with fail
              go_quiet (fail)
              go_wp2_with fail
              exact ⟨⟨q1, by omega, by omega, by go_num, TW.out.drewN _⟩, by simp [intOf]⟩
            · obtain rfl : sp = q := by omega
              rcases Nat.eq_zero_or_pos sp with hz | hpos
              · subst hz
                go_wp2_with fail
                go_quiet (fail)
                go_wp2_with fail
                go_meet
                exact ⟨rfl, TW.out.drewN _⟩
              · obtain ⟨q1, rfl⟩ : ∃ q1, sp = q1 + 1 := ⟨sp - 1, by omega⟩
                obtain ⟨go, rfl⟩ := HO.out (by omega)
                obtain ⟨e, he⟩ : ∃ e, E[q1]? = some e := ⟨_, List.getElem?_eq_getElem (by omega)⟩
                have hlt := S4.out q1 e he (by omega)
                have hlt1 := hlt.1
                have hlt2 := hlt.2
                have x0 : W.cell? ⟨go, q1 * 3, none⟩ = some (.int .i64 (e.id : Int)) := HROW.out.cell (tcs_get he).1
                have x1 : W.cell? ⟨go, q1 * 3 + 1, none⟩ = some (.int .i64 (e.at_ : Int)) := HROW.out.cell (tcs_get he).2.1
                have d4 : decide ((e.at_ : Int) > (t.at_ : Int)) = false := decide_eq_false (by omega)
                have d6 : decide ((e.id : Int) > (t.id : Int)) = false := decide_eq_false (by omega)
                have d4' : decide (t.at_ < e.at_) = false := decide_eq_false (by omega)
                have d6' : decide (t.id < e.id) = false := decide_eq_false (by omega)
                have g1 : (q1 : Int) < (E.length : Int) := by omega
                have g0 : (0 : Int) ≤ (q1 : Int) := by omega
                have dq : decide ((q1 : Int) + 1 > 0) = true := decide_eq_true (by omega)
                clear he hlt
                by_cases heq : e.at_ = t.at_
                · have d5 : ((e.at_ : Int) == (t.at_ : Int)) = true := beq_iff_eq.2 (by omega)
                  have d5' : (e.at_ == t.at_) = true := beq_iff_eq.2 heq
                  clear heq
                  go_wp2_with fail
                  go_big_quiet (fail)
                  go_wp2_with fail
                  go_meet
                  exact ⟨rfl, TW.out.drewN _⟩
                · have d5 : ((e.at_ : Int) == (t.at_ : Int)) = false := beq_eq_false_iff_ne.2 (by omega)
                  have d5' : (e.at_ == t.at_) = false := beq_eq_false_iff_ne.2 heq
                  clear heq
                  go_wp2_with fail
                  go_big_quiet (fail)
                  go_wp2_with fail
                  go_meet
                  exact ⟨rfl, TW.out.drewN _⟩
        case rest =>
          obtain ⟨rfl, htw⟩ := hcut
          obtain ⟨W2, rfl⟩ : ∃ W2 : World, W2 = wc := ⟨_, rfl⟩
          have TW2 := Lib.hid htw
          have hrow : LRow W2 57 3 (.slice Ao E.length co) E.length (tcs E) := by have := htw.out; unfold LT at this; rw [HE.out] at this; exact this
          have HROW2 := Lib.hid hrow
          have k3' : W2.cell? ⟨b, 3, none⟩ = some (.slice (some ⟨g, 0, none⟩) L.length c) := TW2.out.wh.row.cell 3
          have c0' : W2.cell? ⟨g, k * 3, none⟩ = some (.int .i64 (t.id : Int)) := TW2.out.wh.ts.cell HTC.out.1
          have c1' : W2.cell? ⟨g, k * 3 + 1, none⟩ = some (.int .i64 (t.at_ : Int)) := TW2.out.wh.ts.cell HTC.out.2.1
          have c2' : W2.cell? ⟨g, k * 3 + 2, none⟩ = some (.int .i64 t.what) := TW2.out.wh.ts.cell HTC.out.2.2
          clear htw hrow
          obtain ⟨z, hz⟩ : ∃ z : Int, (sp : Int) = z := ⟨_, rfl⟩
          rw [hz]
          have s7 := fun W' => run_full (P := Try.prog) W' Try.underlying60 hi0 Ao E.length co sp (by omega) (z := z) hz.symm
          have s14 := fun W' => run_from (P := Try.prog) W' Try.underlying60 hi0 Ao E.length co sp (by omega) (z := z) hz.symm
          rw [hz1] at s14
          have z0 : 0 ≤ z := by omega
          have z1 : z ≤ (E.length : Int) := by omega
          have z2 : z ≤ (co : Int) := by omega
          have HZ := Lib.hid hz
          clear hz
          have HC : Hid (∀ x, LRow (W2.drew.alloc x) 57 3 (.slice Ao sp sp) sp (tcs (E.take sp))) := fun x => by
            have h1 := HROW2.out.cut (k := sp) (by omega)
            rw [tcs_take] at h1
            exact h1.of_block (fun g hg => Below.heap_alloc W2.drew _ g (HROW2.out.lt ((own_len _ _ _ _ _).trans hg)))
          have HR : Hid (∀ x, Src (W2.drew.alloc x) 3 (cutA Ao co sp 3) (E.length - sp) (tcs (E.drop sp))) := fun x => by
            have h1 := HROW2.out.rest (k := sp) (A' := cutA Ao co sp 3) (by omega) (fun hlt => cutA_ne (by omega))
            rw [tcs_drop] at h1
            refine h1.of_block (fun ad had => ?_)
            obtain ⟨a0, e0, e1⟩ := cutA_blk had
            rw [e1]
            exact Below.heap_alloc W2.drew _ _ (HROW2.out.blk e0)
          have HN : Hid (LRow (W2.drew.alloc (.cells #[.int .i64 (t.id : Int), .int .i64 (t.at_ : Int), .int .i64 t.what] 57)) 57 3 (.slice (some ⟨W2.heap.size, 0, none⟩) 1 1) 1 (tcs [t])) := by
            have hr : Row (W2.drew.alloc (.cells #[.int .i64 (t.id : Int), .int .i64 (t.at_ : Int), .int .i64 t.what] 57)) W2.heap.size 57 #[.int .i64 (t.id : Int), .int .i64 (t.at_ : Int), .int .i64 t.what] := Row.new W2.drew 57 _
            exact ⟨rfl, .inr ⟨W2.heap.size, 1, _, rfl, hr, by omega, by unfold maxLen; omega, Nat.le_refl 3, rfl⟩⟩
          go_wp2_with fail
          go_region_law
            ((first
              | (refine step_append_loose (W2.drew.alloc (.cells #[.int .i64 (t.id : Int), .int .i64 (t.at_ : Int), .int .i64 t.what] 57)) (by rfl) (.tmp 121) (.tmp 124) 60 (by rfl) 57 i0 (.agg #[.int .i64 0, .int .i64 0, .int .i64 0]) 3 24 Try.underlying60 hi0 hz0 hz1 hz2 (by rfl) (by omega) (.slice (some ⟨W2.heap.size, 0, none⟩) 1 1) 1 (tcs [t]) (by rfl) HN.out (cutA Ao co sp 3) (E.length - sp) (co - sp) (tcs (E.drop sp)) (by rfl) (HR.out _) (tcs_one _) (by unfold maxLen; omega) (by omega) ?_
                 intro v4 w4 a1 a2 a3
                 obtain ⟨A4, d4, rfl, _⟩ := a1.shape
                 have A1' := Lib.hid a1
                 have A2' := Lib.hid a2
                 have A3' := Lib.hid a3
                 clear a1 a2 a3)
              | (refine step_append_loose w4 (by rfl) (.tmp 113) (.tmp 125) 60 (by rfl) 57 i0 (.agg #[.int .i64 0, .int .i64 0, .int .i64 0]) 3 24 Try.underlying60 hi0 hz0 hz1 hz2 (by rfl) (by omega) (.slice Ao sp sp) sp (tcs (E.take sp)) (by rfl) ((HC.out _).of_block (fun x hx => A2'.out.block x (by have h1 := (HC.out (.cells #[.int .i64 (t.id : Int), .int .i64 (t.at_ : Int), .int .i64 t.what] 57)).lt hx; exact h1) (by have h1 := HROW2.out.lt ((own_len _ _ _ _ _).trans hx); simp only [Value.ownBlock, ne_eq, Option.some.injEq]; omega))) A4 (1 + (E.length - sp)) d4 (tcs [t] ++ tcs (E.drop sp)) (by rfl) A1'.out.src (by rw [← tcs_append]; exact tcs_one _) (by unfold maxLen; omega) (by omega) ?_
                 intro v5 w5 b1 b2 b3
                 obtain ⟨A5, d5, rfl, _⟩ := b1.shape
                 have B1' := Lib.hid b1
                 have B2' := Lib.hid b2
                 have B3' := Lib.hid b3
                 clear b1 b2 b3)))
          all_goals
            have fin := TW2.out.sooner (w1 := w4) (X := some W2.heap.size) (w' := w5) (o' := .slice A5 (sp + (1 + (E.length - sp))) d5) (m := sp + (1 + (E.length - sp))) HI.out HTK.out ga (by omega) (undrew ((World.grownBy_alloc W2.drew _ _).trans A2'.out)) (fun x hx => by injection hx; omega) (by rw [own_len Ao E.length co sp sp]; exact B2'.out) (by rw [HE.out, HSP.out]; exact B1'.out) (by rw [HE.out]; omega) (fun x hx => (B3'.out x hx).imp (fun h => (own_len _ _ _ _ _).trans h) (fun h => by have := A2'.out.size; simp at this; omega))
            have FIN := Lib.hid fin
            clear fin
            go_wp2_with fail
            go_roundw
            case rel =>
              have FR : Hid (RRel w b (.slice (some ⟨g, 0, none⟩) L.length c) M now next d L (.slice A5 (sp + (1 + (E.length - sp))) d5) (.slice Ar ((L.take k).filter (fun u => decide (now + d < u.at_))).length cr) (.int .i64 ((k : Int) + 1)) w5) := ⟨k + 1, by omega, by go_num, FIN.out⟩
              exact FR.out
            case measure => simp [intOf]; omega
    · obtain rfl : k = L.length := by omega
      go_wp2_with fail
      go_ret
      have TT := T.out
      have e1 : expT (L.take L.length) now (d + 1) = expT L now (d + 1) := by rw [List.take_length]
      have e2 : (L.take L.length).filter (fun u => decide (now + d < u.at_)) = L.filter (fun u => decide (now + d < u.at_)) := by rw [List.take_length]
      have hout : LT wr (Value.slice Ao (expT (L.take L.length) now (d + 1)).length co) (expT L now (d + 1)) := by have := TT.out; rw [← e1]; exact this
      have hrest : LT wr (Value.slice Ar ((L.take L.length).filter (fun u => decide (now + d < u.at_))).length cr) (L.filter (fun u => decide (now + d < u.at_))) := by have := TT.rest; rw [← e2]; exact this
      have nb : ∀ g, ((Value.slice Ar ((L.take L.length).filter (fun u => decide (now + d < u.at_))).length cr).ownBlock = some g ∨ (Value.slice Ao (expT (L.take L.length) now (d + 1)).length co).ownBlock = some g) → g ≠ b := fun g hg e => by
        have h1 := TT.lt.2 b TT.lt.1
        rcases hg with hg | hg
        · have := TT.rv g hg; omega
        · have := (TT.ov g hg).1; omega
      refine ⟨_, _, rfl, hout.of_block (fun g hg => Below.heap_setCell wr _ _ g (nb g (.inr hg))), ⟨?_, hrest.of_block (fun g hg => Below.heap_setCell wr _ _ g (nb g (.inl hg)))⟩, TT.keep.setCell (fun _ => rfl) _, fun g hg => (TT.ov g hg).1, TT.rv⟩
      have := TT.wh.row.put 3 (.slice Ar ((L.take L.length).filter (fun u => decide (now + d < u.at_))).length cr)
      simpa using this
end Go.Proofs.Ytlbdfhbkemikgaa

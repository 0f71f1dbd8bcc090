/- The walk of move. -/
import Derived.Test.YtlbdfhbkemikgaaWalkD
import Derived.LoopTactic
set_option linter.unusedVariables false
set_option linter.unusedSimpArgs false
namespace Go.Proofs.Ytlbdfhbkemikgaa
open Go.RowKit Plain

/-- bounds, with 'k' more to be put. -/
structure OkN (S : WS) (k : Nat) : Prop where
  now : S.now < 1000000000000
  next : S.next < 1000000000000
  m0 : 0 ≤ S.m0 ∧ S.m0 + k < 1000000000000
  m1 : 0 ≤ S.m1 ∧ S.m1 + k < 1000000000000
  m2 : 0 ≤ S.m2 ∧ S.m2 + k < 1000000000000
  len : ∀ j, j < 1024 → (S.slot j).length + k < 1000000000000
  due : S.due.length < 1000000000000
  inc : (ids S.live).Pairwise (· < ·)
  lt_ : ∀ t ∈ S.live, t.id < S.next
  at_ : ∀ t ∈ S.live, S.now ≤ t.at_ ∧ t.at_ < 1099511627776

theorem OkN.ok {S : WS} {k : Nat} (h : OkN S k) : Ok S :=
  ⟨h.now, h.next, by have := h.m0; omega, by have := h.m1; omega, by have := h.m2; omega, fun j hj => by have := h.len j hj; omega, h.due, h.inc, h.lt_, h.at_⟩
theorem OkN.less {S : WS} {k k' : Nat} (h : OkN S k) (hk : k' ≤ k) : OkN S k' :=
  ⟨h.now, h.next, by have := h.m0; omega, by have := h.m1; omega, by have := h.m2; omega, fun j hj => by have := h.len j hj; omega, h.due, h.inc, h.lt_, h.at_⟩

theorem OkN.put {S : WS} {k : Nat} (h : OkN S (k + 1)) (id a : Nat) : OkN (put S id a) k := by
  refine ⟨h.now, h.next, ?_, ?_, ?_, fun j hj => ?_, h.due, h.inc, h.lt_, h.at_⟩
  · have := h.m0
    unfold Plain.put
    simp only []
    repeat' split
    all_goals omega
  · have := h.m1
    unfold Plain.put
    simp only []
    repeat' split
    all_goals omega
  · have := h.m2
    unfold Plain.put
    simp only []
    repeat' split
    all_goals omega
  · have := h.len j hj
    unfold Plain.put upd
    simp only []
    split
    · rename_i e; subst e; simp; omega
    · omega

def putOne (S : WS) (id : Nat) : WS := match S.live.find? (fun t => decide (t.id = id)) with | some t => put S id t.at_ | none => S
def putAll (S : WS) (l : List Nat) : WS := l.foldl putOne S
theorem putAll_succ (S : WS) (l : List Nat) (k : Nat) (id : Nat) (h : l[k]? = some id) : putAll S (l.take (k + 1)) = putOne (putAll S (l.take k)) id := by
  unfold putAll
  rw [List.take_add_one, h]
  simp
theorem putOne_live (S : WS) (id : Nat) : (putOne S id).live = S.live := by unfold putOne; split <;> rfl
theorem putAll_live (S : WS) : ∀ l, (putAll S l).live = S.live := by
  intro l
  induction l generalizing S with
  | nil => rfl
  | cons x l ih => show (putAll (putOne S x) l).live = _; rw [ih, putOne_live]
theorem OkN.putOne {S : WS} {k : Nat} (h : OkN S (k + 1)) (id : Nat) : OkN (putOne S id) k := by
  unfold Ytlbdfhbkemikgaa.putOne
  split
  · exact h.put _ _
  · exact h.less (by omega)
theorem OkN.putAll {S : WS} {l : List Nat} (h : OkN S l.length) : ∀ k, k ≤ l.length → OkN (putAll S (l.take k)) (l.length - k)
  | 0, _ => by simpa [Ytlbdfhbkemikgaa.putAll] using h
  | k + 1, hk => by
    obtain ⟨id, hid⟩ : ∃ id, l[k]? = some id := ⟨l[k], List.getElem?_eq_getElem (by omega)⟩
    rw [putAll_succ S l k id hid]
    exact OkN.putOne (by have := OkN.putAll h k (by omega); rwa [show l.length - k = l.length - (k + 1) + 1 by omega] at this) id

/-- a slot is taken out. -/
def taken (S : WS) (lvl j : Nat) : WS :=
  { S with slot := upd S.slot j []
           m0 := S.m0
           m1 := if lvl = 1 then S.m1 - (S.slot j).length else S.m1
           m2 := if lvl = 2 then S.m2 - (S.slot j).length else S.m2 }
def moved (S : WS) (lvl j : Nat) : WS := putAll (taken S lvl j) (S.slot j)

theorem wrap_ok {n : Int} (h0 : -9223372036854775808 ≤ n) (h1 : n ≤ 9223372036854775807) : IntKind.i64.wrap n = n := Ytlbdfhbkemikgaa.wrap64 h0 h1

def MRel (p m : Nat) (w1 : World) (V1 : Nat → Value) (S1 : WS) (l : List Nat) (i : Value) (wr : World) : Prop :=
  ∃ (k : Nat) (V' : Nat → Value), k ≤ l.length ∧ i = .int .i64 k ∧ Wh wr p m V' (putAll S1 (l.take k)) ∧ Step p m w1 V1 wr V'

theorem sl_cases {w : World} {v : Value} {l : List Nat} (h : Sl w v l) : (v = .slice none 0 0 ∧ l = []) ∨ ∃ g c, v = .slice (some ⟨g, 0, none⟩) l.length c := by
  rcases h.2 with ⟨h1, h2⟩ | ⟨g, c, _, h1, _⟩
  · exact .inl ⟨h1, List.eq_nil_of_length_eq_zero h2⟩
  · exact .inr ⟨g, c, h1⟩

theorem sl_cell {w : World} {g n c : Nat} {l : List Nat} (h : Sl w (.slice (some ⟨g, 0, none⟩) n c) l) {k id : Nat} (hk : l[k]? = some id) : w.cell? ⟨g, k, none⟩ = some (iv id) := by
  have := World.ownsRow.cells h (g := g) rfl k (iv id) (by rw [List.getElem?_map, hk]; rfl)
  have e : (⟨g, 0, none⟩ : Addr).add k = ⟨g, k, none⟩ := by unfold Addr.add; split <;> simp_all
  rwa [e] at this

theorem find_live : ∀ {l : List Tm}, (ids l).Pairwise (· < ·) → ∀ {t : Tm}, t ∈ l → l.find? (fun u => decide (u.id = t.id)) = some t := by
  intro l hp t ht
  cases h : l.find? (fun u => decide (u.id = t.id)) with
  | none => exact absurd (List.find?_eq_none.1 h t ht) (by simp)
  | some u =>
    have h1 := List.mem_of_find?_eq_some h
    have h2 := List.find?_some h
    simp at h2
    rw [ids_inj hp u h1 t ht h2]

set_option maxHeartbeats 1000000 in
set_option maxRecDepth 100000 in
theorem move_1 (w : World) (p m : Nat) (V : Nat → Value) (S : WS) (h : Wh w p m V S) (j : Nat) (hj0 : 512 ≤ j) (hj1 : j < 768) (ok0 : Ok S) (ok : OkN (taken S 1 j) (S.slot j).length) (hb : ∀ id ∈ S.slot j, id < 1000000000000) :
    Calls Try.prog 45 #[.pointer (some ⟨p, 0, none⟩), .int .i64 1, .pointer (some ⟨p, j, none⟩)] w (RetW w p m V (.tuple #[]) (moved S 1 j)) := by
  have b0 := ok0.m0; have b1 := ok0.m1; have b2 := ok0.m2
  have b3 := ok0.len j (by omega)
  have k0 : w.cell? ⟨p, j, none⟩ = some (V j) := h.row.cell (by omega)
  have f0 := h.row.free
  have sl := h.sl j (by unfold isSlot; omega)
  rw [lst_slot _ (by omega)] at sl
  have H := Lib.hid h
  have OK := Lib.hid ok
  have HB := Lib.hid hb
  clear h ok ok0 hb
  rcases sl_cases sl with ⟨e, el⟩ | ⟨g, c, e⟩
  · rw [e] at k0
    have fin := H.out.slot (j := j) (by unfold isSlot; omega) (.slice none 0 0) [] (w1 := w) (S' := { S with slot := upd S.slot j [] }) (⟨rfl, rfl, rfl, Nat.le_refl _, fun _ _ _ => rfl⟩ : w.grownBy w _) (Sl.nil w) (fun g hg => by simp [Value.ownBlock] at hg)
      (by rw [lst_slot _ (by omega)]; simp [upd]) (fun i hi hne => by unfold lst; simp only [upd]; rw [if_neg hne]) rfl rfl rfl rfl rfl rfl rfl
    have FIN := Lib.hid fin
    clear fin
    go_enter Try.func45, Try.ntmps45
    go_upto_region 3 with (fail)
    have H1 := Lib.hid FIN.out.1
    have T1 := Lib.hid FIN.out.2
    clear FIN k0
    generalize w.setCell ⟨p, j, none⟩ (.slice none 0 0) = w1 at *
    generalize updV V j (.slice none 0 0) = V1 at *
    have k1 : w1.cell? ⟨p, 1025, none⟩ = some (.int .i64 S.m1) := by rw [H1.out.row.cell (by omega), H1.out.c1]
    have f1 := H1.out.row.free
    go_still_tail 12, (by kernel_rfl)
    change wpList _ _ _ _ _ w1.drew
    go_upto_region 4 with (fail)
    have H2 : Hid (Wh (w1.setCell ⟨p, 1025, none⟩ (.int .i64 S.m1)).drew p m (updV V1 1025 (.int .i64 S.m1)) (taken S 1 j)) :=
      (H1.out.num (S' := taken S 1 j) (by unfold isSlot; omega) (.int .i64 S.m1) rfl rfl rfl (by rw [updV_other _ _ (by decide), H1.out.c0]; rfl) (by rw [updV_self]; simp [taken, el]) (by rw [updV_other _ _ (by decide), H1.out.c2]; rfl) (by rw [updV_other _ _ (by decide), H1.out.map]) (by rw [updV_other _ _ (by decide), H1.out.most]; rfl)
        (by rw [updV_other _ _ (by decide), H1.out.now]; rfl) (by rw [updV_other _ _ (by decide), H1.out.next]; rfl)).drew
    have T0 := Step.num H1.out (j := 1025) (by unfold isSlot; omega) (.int .i64 S.m1)
    have T2 : Hid (Step p m w V (w1.setCell ⟨p, 1025, none⟩ (.int .i64 S.m1)).drew (updV V1 1025 (.int .i64 S.m1))) := T1.out.trans ⟨T0.keep.drew, T0.sub⟩
    clear T0 k1 f1
    generalize (w1.setCell ⟨p, 1025, none⟩ (.int .i64 S.m1)).drew = w2 at *
    generalize updV V1 1025 (.int .i64 S.m1) = V2 at *
    go_wp2
    refine wp_loop_rounds 1 ?_
    rw [rounds_succ]
    go_wp2
    go_end0
    refine ⟨rfl, V2, ?_, T2.out⟩
    unfold moved
    rw [el]
    exact H2.out
  · rw [e] at k0
    have fin := H.out.slot (j := j) (by unfold isSlot; omega) (.slice none 0 0) [] (w1 := w) (S' := { S with slot := upd S.slot j [] }) (⟨rfl, rfl, rfl, Nat.le_refl _, fun _ _ _ => rfl⟩ : w.grownBy w _) (Sl.nil w) (fun g hg => by simp [Value.ownBlock] at hg)
      (by rw [lst_slot _ (by omega)]; simp [upd]) (fun i hi hne => by unfold lst; simp only [upd]; rw [if_neg hne]) rfl rfl rfl rfl rfl rfl rfl
    have FIN := Lib.hid fin
    clear fin
    have hgo : (V j).ownBlock = some g := by rw [e]; rfl
    have ap := H.out.apart (j := j) (by unfold isSlot; omega) hgo
    rw [e] at sl
    have SL : Hid (Sl (w.setCell ⟨p, j, none⟩ (.slice none 0 0)) (.slice (some ⟨g, 0, none⟩) (S.slot j).length c) (S.slot j)) :=
      sl.of_block (fun g' hg' => by simp [Value.ownBlock] at hg'; subst hg'; exact Below.heap_setCell w _ _ _ ap.1)
    have NF : Hid (¬ foot p m (updV V j (.slice none 0 0)) g) := by
      rintro (h1 | h1 | ⟨i, hi, hi2⟩)
      · exact ap.1 h1
      · exact ap.2 h1
      · by_cases ei : i = j
        · subst ei; rw [updV_self] at hi2; simp [Value.ownBlock] at hi2
        · rw [updV_other _ _ ei] at hi2; exact ei (H.out.inj i j g hi (by unfold isSlot; omega) hi2 hgo)
    clear sl
    go_enter Try.func45, Try.ntmps45
    go_upto_region 3 with (fail)
    have H1 := Lib.hid FIN.out.1
    have T1 := Lib.hid FIN.out.2
    clear FIN k0
    generalize w.setCell ⟨p, j, none⟩ (.slice none 0 0) = w1 at *
    generalize updV V j (.slice none 0 0) = V1 at *
    have k1 : w1.cell? ⟨p, 1025, none⟩ = some (.int .i64 S.m1) := by rw [H1.out.row.cell (by omega), H1.out.c1]
    have f1 := H1.out.row.free
    have wr0 : IntKind.i64.wrap (S.m1 - (S.slot j).length) = S.m1 - (S.slot j).length := wrap_ok (by omega) (by omega)
    go_still_tail 12, (by kernel_rfl)
    change wpList _ _ _ _ _ w1.drew
    go_upto_region 4 with (fail)
    have H2 : Hid (Wh (w1.setCell ⟨p, 1025, none⟩ (.int .i64 (S.m1 - (S.slot j).length))).drew p m (updV V1 1025 (.int .i64 (S.m1 - (S.slot j).length))) (taken S 1 j)) :=
      (H1.out.num (S' := taken S 1 j) (by unfold isSlot; omega) (.int .i64 (S.m1 - (S.slot j).length)) rfl rfl rfl (by rw [updV_other _ _ (by decide), H1.out.c0]; rfl) (updV_self _ _ _) (by rw [updV_other _ _ (by decide), H1.out.c2]; rfl) (by rw [updV_other _ _ (by decide), H1.out.map]) (by rw [updV_other _ _ (by decide), H1.out.most]; rfl)
        (by rw [updV_other _ _ (by decide), H1.out.now]; rfl) (by rw [updV_other _ _ (by decide), H1.out.next]; rfl)).drew
    have T0 := Step.num H1.out (j := 1025) (by unfold isSlot; omega) (.int .i64 (S.m1 - (S.slot j).length))
    have T2 : Hid (Step p m w V (w1.setCell ⟨p, 1025, none⟩ (.int .i64 (S.m1 - (S.slot j).length))).drew (updV V1 1025 (.int .i64 (S.m1 - (S.slot j).length)))) := T1.out.trans ⟨T0.keep.drew, T0.sub⟩
    clear T0 k1 f1
    have NF2 : Hid (¬ foot p m (updV V1 1025 (.int .i64 (S.m1 - (S.slot j).length))) g) := fun h => NF.out ((foot_updV (by unfold isSlot; omega) _).1 h)
    have SL2 : Hid (Sl (w1.setCell ⟨p, 1025, none⟩ (.int .i64 (S.m1 - (S.slot j).length))).drew (.slice (some ⟨g, 0, none⟩) (S.slot j).length c) (S.slot j)) :=
      SL.out.of_block (fun g' hg' => by simp [Value.ownBlock] at hg'; subst hg'; exact Below.heap_setCell w1 _ _ _ ap.1)
    clear NF SL
    generalize (w1.setCell ⟨p, 1025, none⟩ (.int .i64 (S.m1 - (S.slot j).length))).drew = w2 at *
    generalize updV V1 1025 (.int .i64 (S.m1 - (S.slot j).length)) = V2 at *
    go_wp2
    clear e b0 b1 b2 H hgo ap f0
    have hmv : Hid (moved S 1 j = putAll (taken S 1 j) (S.slot j)) := rfl
    generalize moved S 1 j = SM at *
    generalize taken S 1 j = S1 at *
    generalize S.slot j = l at *
    go_loopw [32] (fun i wr => MRel p m w2 V2 S1 l i wr) (fun i _ => l.length - (intOf i).toNat)
    case atStart => exact ⟨0, V2, Nat.zero_le _, rfl, by simpa [putAll] using H2.out, Step.refl _ _ _ _⟩
    case round =>
      obtain ⟨k, V', hk, rfl, hw, hs⟩ := hrel
      by_cases hkl : k < l.length
      · obtain ⟨id, hid⟩ : ∃ id, l[k]? = some id := ⟨l[k], List.getElem?_eq_getElem hkl⟩
        have okk := OK.out.putAll k hk
        have hlive : (putAll S1 (l.take k)).live = S1.live := putAll_live _ _
        have hsl := own_keep SL2.out hs.keep (fun g' hg' => by simp [Value.ownBlock] at hg'; subst hg'; exact NF2.out)
        have c0 : wr.cell? ⟨g, k, none⟩ = some (.int .i64 id) := sl_cell hsl hid
        have c1 : wr.cell? ⟨p, 1028, none⟩ = some (.map (some m)) := by rw [hw.row.cell (by omega), hw.map]
        have hput := putAll_succ S1 l k id hid
        unfold putOne at hput
        generalize putAll S1 (l.take k) = Sk at *
        have HW := Lib.hid hw
        have HS := Lib.hid hs
        have OKK := Lib.hid okk
        have HP := Lib.hid hput
        clear hw hs okk hsl hput
        by_cases hf : ∃ t ∈ Sk.live, t.id = id
        · obtain ⟨t, ht, rfl⟩ := hf
          have hfind : Sk.live.find? (fun u => decide (u.id = t.id)) = some t := find_live OKK.out.inc ht
          have hmem := Lib.hid (ents_mem ht)
          have huq := Lib.hid (OKK.out.ok.uniq ht)
          have con := Lib.hid (put_c (wr.alloc (.cells #[.int .i64 (t.at_ : Int), .int .i64 t.what] 82)) p m V' Sk (HW.out.alloc _) OKK.out.ok t.id t.at_ (OKK.out.at_ t ht).1 (OKK.out.at_ t ht).2)
          clear ht
          go_wp2_with (first
            | (at_lookup
               refine wp_look_some rfl _ _ rfl rfl HW.out.mp OKK.out.ok.ranged _ rfl _ hmem.out huq.out ?_)
            | (go_at_call 33
               refine con.out.mono ?_
               rintro e w3 ⟨rfl, V3, hw3, hs3⟩
               have A1 := Lib.hid hw3
               have A2 := Lib.hid hs3
               clear hw3 hs3))
          have T3 : Step p m wr V' w3 V3 := ⟨(((Keep.refl _ wr).alloc _).trans A2.out.keep (fun _ _ h => h)), fun q hq => (A2.out.sub q hq).imp id (fun h => by simp at h; omega)⟩
          have hfin : putAll S1 (l.take (k + 1)) = put Sk t.id t.at_ := by rw [HP.out, hfind]
          go_round
          case rel => exact ⟨k + 1, V3, hkl, by go_num, by rw [hfin]; exact A1.out, HS.out.trans T3⟩
          case measure => simp [intOf]; omega
        · have hfind : Sk.live.find? (fun u => decide (u.id = id)) = none := List.find?_eq_none.2 (fun t ht => by simp; exact fun e => hf ⟨t, ht, e⟩)
          have hno : Hid (∀ x ∈ ents Sk.live, x.1 ≠ (id : Int)) := by
            intro x hx e
            obtain ⟨t, ht, rfl⟩ := List.mem_map.1 hx
            exact hf ⟨t, ht, by have : (t.id : Int) = id := e; omega⟩
          clear hf
          have hwf := wf_i64 (a := (id : Int)) (by omega) (by have := HB.out id (List.mem_of_getElem? hid); omega)
          go_wp2_with (first
            | (at_lookup
               refine wp_look_none rfl _ _ rfl rfl HW.out.mp OKK.out.ok.ranged _ rfl hwf hno.out _ (zero82 _) ?_))
          have hfin : putAll S1 (l.take (k + 1)) = Sk := by rw [HP.out, hfind]
          go_round
          case rel => exact ⟨k + 1, V', hkl, by go_num, by rw [hfin]; exact HW.out.alloc _, HS.out.trans ⟨(Keep.refl _ wr).alloc _, fun q hq => .inl hq⟩⟩
          case measure => simp [intOf]; omega
      · have : k = l.length := by omega
        subst this
        rw [List.take_length, ← hmv.out] at hw
        go_wp2
        go_end0
        exact ⟨rfl, V', hw, T2.out.trans hs⟩
set_option maxHeartbeats 1000000 in
set_option maxRecDepth 100000 in
theorem move_2 (w : World) (p m : Nat) (V : Nat → Value) (S : WS) (h : Wh w p m V S) (j : Nat) (hj0 : 256 ≤ j) (hj1 : j < 512) (ok0 : Ok S) (ok : OkN (taken S 2 j) (S.slot j).length) (hb : ∀ id ∈ S.slot j, id < 1000000000000) :
    Calls Try.prog 45 #[.pointer (some ⟨p, 0, none⟩), .int .i64 2, .pointer (some ⟨p, j, none⟩)] w (RetW w p m V (.tuple #[]) (moved S 2 j)) := by
  have b0 := ok0.m0; have b1 := ok0.m1; have b2 := ok0.m2
  have b3 := ok0.len j (by omega)
  have k0 : w.cell? ⟨p, j, none⟩ = some (V j) := h.row.cell (by omega)
  have f0 := h.row.free
  have sl := h.sl j (by unfold isSlot; omega)
  rw [lst_slot _ (by omega)] at sl
  have H := Lib.hid h
  have OK := Lib.hid ok
  have HB := Lib.hid hb
  clear h ok ok0 hb
  rcases sl_cases sl with ⟨e, el⟩ | ⟨g, c, e⟩
  · rw [e] at k0
    have fin := H.out.slot (j := j) (by unfold isSlot; omega) (.slice none 0 0) [] (w1 := w) (S' := { S with slot := upd S.slot j [] }) (⟨rfl, rfl, rfl, Nat.le_refl _, fun _ _ _ => rfl⟩ : w.grownBy w _) (Sl.nil w) (fun g hg => by simp [Value.ownBlock] at hg)
      (by rw [lst_slot _ (by omega)]; simp [upd]) (fun i hi hne => by unfold lst; simp only [upd]; rw [if_neg hne]) rfl rfl rfl rfl rfl rfl rfl
    have FIN := Lib.hid fin
    clear fin
    go_enter Try.func45, Try.ntmps45
    go_upto_region 3 with (fail)
    have H1 := Lib.hid FIN.out.1
    have T1 := Lib.hid FIN.out.2
    clear FIN k0
    generalize w.setCell ⟨p, j, none⟩ (.slice none 0 0) = w1 at *
    generalize updV V j (.slice none 0 0) = V1 at *
    have k1 : w1.cell? ⟨p, 1026, none⟩ = some (.int .i64 S.m2) := by rw [H1.out.row.cell (by omega), H1.out.c2]
    have f1 := H1.out.row.free
    go_still_tail 12, (by kernel_rfl)
    change wpList _ _ _ _ _ w1.drew
    go_upto_region 4 with (fail)
    have H2 : Hid (Wh (w1.setCell ⟨p, 1026, none⟩ (.int .i64 S.m2)).drew p m (updV V1 1026 (.int .i64 S.m2)) (taken S 2 j)) :=
      (H1.out.num (S' := taken S 2 j) (by unfold isSlot; omega) (.int .i64 S.m2) rfl rfl rfl (by rw [updV_other _ _ (by decide), H1.out.c0]; rfl) (by rw [updV_other _ _ (by decide), H1.out.c1]; rfl) (by rw [updV_self]; simp [taken, el]) (by rw [updV_other _ _ (by decide), H1.out.map]) (by rw [updV_other _ _ (by decide), H1.out.most]; rfl)
        (by rw [updV_other _ _ (by decide), H1.out.now]; rfl) (by rw [updV_other _ _ (by decide), H1.out.next]; rfl)).drew
    have T0 := Step.num H1.out (j := 1026) (by unfold isSlot; omega) (.int .i64 S.m2)
    have T2 : Hid (Step p m w V (w1.setCell ⟨p, 1026, none⟩ (.int .i64 S.m2)).drew (updV V1 1026 (.int .i64 S.m2))) := T1.out.trans ⟨T0.keep.drew, T0.sub⟩
    clear T0 k1 f1
    generalize (w1.setCell ⟨p, 1026, none⟩ (.int .i64 S.m2)).drew = w2 at *
    generalize updV V1 1026 (.int .i64 S.m2) = V2 at *
    go_wp2
    refine wp_loop_rounds 1 ?_
    rw [rounds_succ]
    go_wp2
    go_end0
    refine ⟨rfl, V2, ?_, T2.out⟩
    unfold moved
    rw [el]
    exact H2.out
  · rw [e] at k0
    have fin := H.out.slot (j := j) (by unfold isSlot; omega) (.slice none 0 0) [] (w1 := w) (S' := { S with slot := upd S.slot j [] }) (⟨rfl, rfl, rfl, Nat.le_refl _, fun _ _ _ => rfl⟩ : w.grownBy w _) (Sl.nil w) (fun g hg => by simp [Value.ownBlock] at hg)
      (by rw [lst_slot _ (by omega)]; simp [upd]) (fun i hi hne => by unfold lst; simp only [upd]; rw [if_neg hne]) rfl rfl rfl rfl rfl rfl rfl
    have FIN := Lib.hid fin
    clear fin
    have hgo : (V j).ownBlock = some g := by rw [e]; rfl
    have ap := H.out.apart (j := j) (by unfold isSlot; omega) hgo
    rw [e] at sl
    have SL : Hid (Sl (w.setCell ⟨p, j, none⟩ (.slice none 0 0)) (.slice (some ⟨g, 0, none⟩) (S.slot j).length c) (S.slot j)) :=
      sl.of_block (fun g' hg' => by simp [Value.ownBlock] at hg'; subst hg'; exact Below.heap_setCell w _ _ _ ap.1)
    have NF : Hid (¬ foot p m (updV V j (.slice none 0 0)) g) := by
      rintro (h1 | h1 | ⟨i, hi, hi2⟩)
      · exact ap.1 h1
      · exact ap.2 h1
      · by_cases ei : i = j
        · subst ei; rw [updV_self] at hi2; simp [Value.ownBlock] at hi2
        · rw [updV_other _ _ ei] at hi2; exact ei (H.out.inj i j g hi (by unfold isSlot; omega) hi2 hgo)
    clear sl
    go_enter Try.func45, Try.ntmps45
    go_upto_region 3 with (fail)
    have H1 := Lib.hid FIN.out.1
    have T1 := Lib.hid FIN.out.2
    clear FIN k0
    generalize w.setCell ⟨p, j, none⟩ (.slice none 0 0) = w1 at *
    generalize updV V j (.slice none 0 0) = V1 at *
    have k1 : w1.cell? ⟨p, 1026, none⟩ = some (.int .i64 S.m2) := by rw [H1.out.row.cell (by omega), H1.out.c2]
    have f1 := H1.out.row.free
    have wr0 : IntKind.i64.wrap (S.m2 - (S.slot j).length) = S.m2 - (S.slot j).length := wrap_ok (by omega) (by omega)
    go_still_tail 12, (by kernel_rfl)
    change wpList _ _ _ _ _ w1.drew
    go_upto_region 4 with (fail)
    have H2 : Hid (Wh (w1.setCell ⟨p, 1026, none⟩ (.int .i64 (S.m2 - (S.slot j).length))).drew p m (updV V1 1026 (.int .i64 (S.m2 - (S.slot j).length))) (taken S 2 j)) :=
      (H1.out.num (S' := taken S 2 j) (by unfold isSlot; omega) (.int .i64 (S.m2 - (S.slot j).length)) rfl rfl rfl (by rw [updV_other _ _ (by decide), H1.out.c0]; rfl) (by rw [updV_other _ _ (by decide), H1.out.c1]; rfl) (updV_self _ _ _) (by rw [updV_other _ _ (by decide), H1.out.map]) (by rw [updV_other _ _ (by decide), H1.out.most]; rfl)
        (by rw [updV_other _ _ (by decide), H1.out.now]; rfl) (by rw [updV_other _ _ (by decide), H1.out.next]; rfl)).drew
    have T0 := Step.num H1.out (j := 1026) (by unfold isSlot; omega) (.int .i64 (S.m2 - (S.slot j).length))
    have T2 : Hid (Step p m w V (w1.setCell ⟨p, 1026, none⟩ (.int .i64 (S.m2 - (S.slot j).length))).drew (updV V1 1026 (.int .i64 (S.m2 - (S.slot j).length)))) := T1.out.trans ⟨T0.keep.drew, T0.sub⟩
    clear T0 k1 f1
    have NF2 : Hid (¬ foot p m (updV V1 1026 (.int .i64 (S.m2 - (S.slot j).length))) g) := fun h => NF.out ((foot_updV (by unfold isSlot; omega) _).1 h)
    have SL2 : Hid (Sl (w1.setCell ⟨p, 1026, none⟩ (.int .i64 (S.m2 - (S.slot j).length))).drew (.slice (some ⟨g, 0, none⟩) (S.slot j).length c) (S.slot j)) :=
      SL.out.of_block (fun g' hg' => by simp [Value.ownBlock] at hg'; subst hg'; exact Below.heap_setCell w1 _ _ _ ap.1)
    clear NF SL
    generalize (w1.setCell ⟨p, 1026, none⟩ (.int .i64 (S.m2 - (S.slot j).length))).drew = w2 at *
    generalize updV V1 1026 (.int .i64 (S.m2 - (S.slot j).length)) = V2 at *
    go_wp2
    clear e b0 b1 b2 H hgo ap f0
    have hmv : Hid (moved S 2 j = putAll (taken S 2 j) (S.slot j)) := rfl
    generalize moved S 2 j = SM at *
    generalize taken S 2 j = S1 at *
    generalize S.slot j = l at *
    go_loopw [32] (fun i wr => MRel p m w2 V2 S1 l i wr) (fun i _ => l.length - (intOf i).toNat)
    case atStart => exact ⟨0, V2, Nat.zero_le _, rfl, by simpa [putAll] using H2.out, Step.refl _ _ _ _⟩
    case round =>
      obtain ⟨k, V', hk, rfl, hw, hs⟩ := hrel
      by_cases hkl : k < l.length
      · obtain ⟨id, hid⟩ : ∃ id, l[k]? = some id := ⟨l[k], List.getElem?_eq_getElem hkl⟩
        have okk := OK.out.putAll k hk
        have hlive : (putAll S1 (l.take k)).live = S1.live := putAll_live _ _
        have hsl := own_keep SL2.out hs.keep (fun g' hg' => by simp [Value.ownBlock] at hg'; subst hg'; exact NF2.out)
        have c0 : wr.cell? ⟨g, k, none⟩ = some (.int .i64 id) := sl_cell hsl hid
        have c1 : wr.cell? ⟨p, 1028, none⟩ = some (.map (some m)) := by rw [hw.row.cell (by omega), hw.map]
        have hput := putAll_succ S1 l k id hid
        unfold putOne at hput
        generalize putAll S1 (l.take k) = Sk at *
        have HW := Lib.hid hw
        have HS := Lib.hid hs
        have OKK := Lib.hid okk
        have HP := Lib.hid hput
        clear hw hs okk hsl hput
        by_cases hf : ∃ t ∈ Sk.live, t.id = id
        · obtain ⟨t, ht, rfl⟩ := hf
          have hfind : Sk.live.find? (fun u => decide (u.id = t.id)) = some t := find_live OKK.out.inc ht
          have hmem := Lib.hid (ents_mem ht)
          have huq := Lib.hid (OKK.out.ok.uniq ht)
          have con := Lib.hid (put_c (wr.alloc (.cells #[.int .i64 (t.at_ : Int), .int .i64 t.what] 82)) p m V' Sk (HW.out.alloc _) OKK.out.ok t.id t.at_ (OKK.out.at_ t ht).1 (OKK.out.at_ t ht).2)
          clear ht
          go_wp2_with (first
            | (at_lookup
               refine wp_look_some rfl _ _ rfl rfl HW.out.mp OKK.out.ok.ranged _ rfl _ hmem.out huq.out ?_)
            | (go_at_call 33
               refine con.out.mono ?_
               rintro e w3 ⟨rfl, V3, hw3, hs3⟩
               have A1 := Lib.hid hw3
               have A2 := Lib.hid hs3
               clear hw3 hs3))
          have T3 : Step p m wr V' w3 V3 := ⟨(((Keep.refl _ wr).alloc _).trans A2.out.keep (fun _ _ h => h)), fun q hq => (A2.out.sub q hq).imp id (fun h => by simp at h; omega)⟩
          have hfin : putAll S1 (l.take (k + 1)) = put Sk t.id t.at_ := by rw [HP.out, hfind]
          go_round
          case rel => exact ⟨k + 1, V3, hkl, by go_num, by rw [hfin]; exact A1.out, HS.out.trans T3⟩
          case measure => simp [intOf]; omega
        · have hfind : Sk.live.find? (fun u => decide (u.id = id)) = none := List.find?_eq_none.2 (fun t ht => by simp; exact fun e => hf ⟨t, ht, e⟩)
          have hno : Hid (∀ x ∈ ents Sk.live, x.1 ≠ (id : Int)) := by
            intro x hx e
            obtain ⟨t, ht, rfl⟩ := List.mem_map.1 hx
            exact hf ⟨t, ht, by have : (t.id : Int) = id := e; omega⟩
          clear hf
          have hwf := wf_i64 (a := (id : Int)) (by omega) (by have := HB.out id (List.mem_of_getElem? hid); omega)
          go_wp2_with (first
            | (at_lookup
               refine wp_look_none rfl _ _ rfl rfl HW.out.mp OKK.out.ok.ranged _ rfl hwf hno.out _ (zero82 _) ?_))
          have hfin : putAll S1 (l.take (k + 1)) = Sk := by rw [HP.out, hfind]
          go_round
          case rel => exact ⟨k + 1, V', hkl, by go_num, by rw [hfin]; exact HW.out.alloc _, HS.out.trans ⟨(Keep.refl _ wr).alloc _, fun q hq => .inl hq⟩⟩
          case measure => simp [intOf]; omega
      · have : k = l.length := by omega
        subst this
        rw [List.take_length, ← hmv.out] at hw
        go_wp2
        go_end0
        exact ⟨rfl, V', hw, T2.out.trans hs⟩
set_option maxHeartbeats 1000000 in
set_option maxRecDepth 100000 in
theorem move_3 (w : World) (p m : Nat) (V : Nat → Value) (S : WS) (h : Wh w p m V S) (j : Nat) (hj1 : j < 256) (ok0 : Ok S) (ok : OkN (taken S 3 j) (S.slot j).length) (hb : ∀ id ∈ S.slot j, id < 1000000000000) :
    Calls Try.prog 45 #[.pointer (some ⟨p, 0, none⟩), .int .i64 3, .pointer (some ⟨p, j, none⟩)] w (RetW w p m V (.tuple #[]) (moved S 3 j)) := by
  have b0 := ok0.m0; have b1 := ok0.m1; have b2 := ok0.m2
  have b3 := ok0.len j (by omega)
  have k0 : w.cell? ⟨p, j, none⟩ = some (V j) := h.row.cell (by omega)
  have f0 := h.row.free
  have sl := h.sl j (by unfold isSlot; omega)
  rw [lst_slot _ (by omega)] at sl
  have H := Lib.hid h
  have OK := Lib.hid ok
  have HB := Lib.hid hb
  clear h ok ok0 hb
  rcases sl_cases sl with ⟨e, el⟩ | ⟨g, c, e⟩
  · rw [e] at k0
    have fin := H.out.slot (j := j) (by unfold isSlot; omega) (.slice none 0 0) [] (w1 := w) (S' := { S with slot := upd S.slot j [] }) (⟨rfl, rfl, rfl, Nat.le_refl _, fun _ _ _ => rfl⟩ : w.grownBy w _) (Sl.nil w) (fun g hg => by simp [Value.ownBlock] at hg)
      (by rw [lst_slot _ (by omega)]; simp [upd]) (fun i hi hne => by unfold lst; simp only [upd]; rw [if_neg hne]) rfl rfl rfl rfl rfl rfl rfl
    have FIN := Lib.hid fin
    clear fin
    go_enter Try.func45, Try.ntmps45
    go_upto_region 4 with (fail)
    have H1 := Lib.hid FIN.out.1
    have T1 := Lib.hid FIN.out.2
    clear FIN k0
    generalize w.setCell ⟨p, j, none⟩ (.slice none 0 0) = w2 at *
    generalize updV V j (.slice none 0 0) = V2 at *
    have H2 : Hid (Wh w2 p m V2 (taken S 3 j)) := H1.out
    have T2 := T1
    clear T1 H1
    go_wp2
    refine wp_loop_rounds 1 ?_
    rw [rounds_succ]
    go_wp2
    go_end0
    refine ⟨rfl, V2, ?_, T2.out⟩
    unfold moved
    rw [el]
    exact H2.out
  · rw [e] at k0
    have fin := H.out.slot (j := j) (by unfold isSlot; omega) (.slice none 0 0) [] (w1 := w) (S' := { S with slot := upd S.slot j [] }) (⟨rfl, rfl, rfl, Nat.le_refl _, fun _ _ _ => rfl⟩ : w.grownBy w _) (Sl.nil w) (fun g hg => by simp [Value.ownBlock] at hg)
      (by rw [lst_slot _ (by omega)]; simp [upd]) (fun i hi hne => by unfold lst; simp only [upd]; rw [if_neg hne]) rfl rfl rfl rfl rfl rfl rfl
    have FIN := Lib.hid fin
    clear fin
    have hgo : (V j).ownBlock = some g := by rw [e]; rfl
    have ap := H.out.apart (j := j) (by unfold isSlot; omega) hgo
    rw [e] at sl
    have SL : Hid (Sl (w.setCell ⟨p, j, none⟩ (.slice none 0 0)) (.slice (some ⟨g, 0, none⟩) (S.slot j).length c) (S.slot j)) :=
      sl.of_block (fun g' hg' => by simp [Value.ownBlock] at hg'; subst hg'; exact Below.heap_setCell w _ _ _ ap.1)
    have NF : Hid (¬ foot p m (updV V j (.slice none 0 0)) g) := by
      rintro (h1 | h1 | ⟨i, hi, hi2⟩)
      · exact ap.1 h1
      · exact ap.2 h1
      · by_cases ei : i = j
        · subst ei; rw [updV_self] at hi2; simp [Value.ownBlock] at hi2
        · rw [updV_other _ _ ei] at hi2; exact ei (H.out.inj i j g hi (by unfold isSlot; omega) hi2 hgo)
    clear sl
    go_enter Try.func45, Try.ntmps45
    go_upto_region 4 with (fail)
    have H1 := Lib.hid FIN.out.1
    have T1 := Lib.hid FIN.out.2
    clear FIN k0
    generalize w.setCell ⟨p, j, none⟩ (.slice none 0 0) = w2 at *
    generalize updV V j (.slice none 0 0) = V2 at *
    have H2 : Hid (Wh w2 p m V2 (taken S 3 j)) := H1.out
    have T2 := T1
    have NF2 := NF
    have SL2 := SL
    clear NF SL
    clear T1 H1
    go_wp2
    clear e b0 b1 b2 H hgo ap f0
    have hmv : Hid (moved S 3 j = putAll (taken S 3 j) (S.slot j)) := rfl
    generalize moved S 3 j = SM at *
    generalize taken S 3 j = S1 at *
    generalize S.slot j = l at *
    go_loopw [32] (fun i wr => MRel p m w2 V2 S1 l i wr) (fun i _ => l.length - (intOf i).toNat)
    case atStart => exact ⟨0, V2, Nat.zero_le _, rfl, by simpa [putAll] using H2.out, Step.refl _ _ _ _⟩
    case round =>
      obtain ⟨k, V', hk, rfl, hw, hs⟩ := hrel
      by_cases hkl : k < l.length
      · obtain ⟨id, hid⟩ : ∃ id, l[k]? = some id := ⟨l[k], List.getElem?_eq_getElem hkl⟩
        have okk := OK.out.putAll k hk
        have hlive : (putAll S1 (l.take k)).live = S1.live := putAll_live _ _
        have hsl := own_keep SL2.out hs.keep (fun g' hg' => by simp [Value.ownBlock] at hg'; subst hg'; exact NF2.out)
        have c0 : wr.cell? ⟨g, k, none⟩ = some (.int .i64 id) := sl_cell hsl hid
        have c1 : wr.cell? ⟨p, 1028, none⟩ = some (.map (some m)) := by rw [hw.row.cell (by omega), hw.map]
        have hput := putAll_succ S1 l k id hid
        unfold putOne at hput
        generalize putAll S1 (l.take k) = Sk at *
        have HW := Lib.hid hw
        have HS := Lib.hid hs
        have OKK := Lib.hid okk
        have HP := Lib.hid hput
        clear hw hs okk hsl hput
        by_cases hf : ∃ t ∈ Sk.live, t.id = id
        · obtain ⟨t, ht, rfl⟩ := hf
          have hfind : Sk.live.find? (fun u => decide (u.id = t.id)) = some t := find_live OKK.out.inc ht
          have hmem := Lib.hid (ents_mem ht)
          have huq := Lib.hid (OKK.out.ok.uniq ht)
          have con := Lib.hid (put_c (wr.alloc (.cells #[.int .i64 (t.at_ : Int), .int .i64 t.what] 82)) p m V' Sk (HW.out.alloc _) OKK.out.ok t.id t.at_ (OKK.out.at_ t ht).1 (OKK.out.at_ t ht).2)
          clear ht
          go_wp2_with (first
            | (at_lookup
               refine wp_look_some rfl _ _ rfl rfl HW.out.mp OKK.out.ok.ranged _ rfl _ hmem.out huq.out ?_)
            | (go_at_call 33
               refine con.out.mono ?_
               rintro e w3 ⟨rfl, V3, hw3, hs3⟩
               have A1 := Lib.hid hw3
               have A2 := Lib.hid hs3
               clear hw3 hs3))
          have T3 : Step p m wr V' w3 V3 := ⟨(((Keep.refl _ wr).alloc _).trans A2.out.keep (fun _ _ h => h)), fun q hq => (A2.out.sub q hq).imp id (fun h => by simp at h; omega)⟩
          have hfin : putAll S1 (l.take (k + 1)) = put Sk t.id t.at_ := by rw [HP.out, hfind]
          go_round
          case rel => exact ⟨k + 1, V3, hkl, by go_num, by rw [hfin]; exact A1.out, HS.out.trans T3⟩
          case measure => simp [intOf]; omega
        · have hfind : Sk.live.find? (fun u => decide (u.id = id)) = none := List.find?_eq_none.2 (fun t ht => by simp; exact fun e => hf ⟨t, ht, e⟩)
          have hno : Hid (∀ x ∈ ents Sk.live, x.1 ≠ (id : Int)) := by
            intro x hx e
            obtain ⟨t, ht, rfl⟩ := List.mem_map.1 hx
            exact hf ⟨t, ht, by have : (t.id : Int) = id := e; omega⟩
          clear hf
          have hwf := wf_i64 (a := (id : Int)) (by omega) (by have := HB.out id (List.mem_of_getElem? hid); omega)
          go_wp2_with (first
            | (at_lookup
               refine wp_look_none rfl _ _ rfl rfl HW.out.mp OKK.out.ok.ranged _ rfl hwf hno.out _ (zero82 _) ?_))
          have hfin : putAll S1 (l.take (k + 1)) = Sk := by rw [HP.out, hfind]
          go_round
          case rel => exact ⟨k + 1, V', hkl, by go_num, by rw [hfin]; exact HW.out.alloc _, HS.out.trans ⟨(Keep.refl _ wr).alloc _, fun q hq => .inl hq⟩⟩
          case measure => simp [intOf]; omega
      · have : k = l.length := by omega
        subst this
        rw [List.take_length, ← hmv.out] at hw
        go_wp2
        go_end0
        exact ⟨rfl, V', hw, T2.out.trans hs⟩
end Go.Proofs.Ytlbdfhbkemikgaa

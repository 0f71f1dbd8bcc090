/- The statement WheelTies is proved: timers of one time expire in the order in which they were started. -/
import Derived.Test.YtlbdfhbkemikgaaRows
import Derived.Test.YtlbdfhbkemikgaaInts
import Derived.Test.YtlbdfhbkemikgaaLawKit
set_option linter.unusedVariables false
set_option linter.unusedSimpArgs false
namespace Go.Proofs.Ytlbdfhbkemikgaa.wheelTies
open Go.ChangeShapes Go.WideShapes Go.ChangeAt Go.RowKit
open Plain

/-- the timers 0 to i - 1, all of one time. -/
def row (i : Nat) : List Tm := (List.range i).map (fun (j : Nat) => Tm.mk j 10000 0)
theorem row_len (i : Nat) : (row i).length = i := by simp [row]
theorem row_succ (i : Nat) : row (i + 1) = row i ++ [⟨i, 10000, 0⟩] := by simp [row, List.range_succ]
theorem row_mem {i : Nat} {t : Tm} (h : t ∈ row i) : t.at_ = 10000 := by
  obtain ⟨j, hj, rfl⟩ := List.mem_map.1 h
  rfl
theorem row_ids (i : Nat) : ids (row i) = List.range i := by simp [row, ids, Function.comp_def]

def TieSt (w0 w : World) (p m i now : Nat) : Prop := ∃ V S, St w0 w p m V S ∧ S.now = now ∧ S.next = i ∧ S.most = 200 ∧ S.live = row i

theorem tie_tick {w0 w : World} {p m i now : Nat} (h : TieSt w0 w p m i now) (hi : i ≤ 100) (d : Nat) (hd : d < 50) (hn : now + d < 10000) :
    Calls Try.prog 11 #[.pointer (some ⟨p, 0, none⟩), .int .i64 (d : Int)] w (fun e w' => ∃ A c, e = .returned (.slice A 0 c) ∧ TieSt w0 w' p m i (now + d)) := by
  obtain ⟨V, S, h, h1, h2, h3, h4⟩ := h
  refine (tickSt h (by omega) (by omega) d (by omega) (by omega)).mono ?_
  rintro e w' ⟨vg, V', S', rfl, h', ha, _, hv, _⟩
  have t : ticksOf (d : Int) = d := by unfold ticksOf; omega
  rw [t] at ha hv
  rw [expFrom_none _ _ _ (fun u hu => by rw [h4] at hu; have := row_mem hu; right; show S.now + (d + 1) ≤ u.at_; omega)] at hv
  obtain ⟨A, c, rfl, _⟩ := sl_shape hv
  refine ⟨A, c, rfl, V', S', h', by rw [ha.now, h1], by rw [ha.next, h2], by rw [ha.most, h3], ?_⟩
  rw [ha.live, h4]
  exact List.filter_eq_self.2 (fun t ht => by have := row_mem ht; simp; omega)

theorem tie_start {w0 w : World} {p m i now : Nat} (h : TieSt w0 w p m i now) (hi : i < 100) (hn : now < 10000) :
    Calls Try.prog 12 #[.pointer (some ⟨p, 0, none⟩), .int .i64 (10000 - (now : Int)), .int .i64 0] w (fun e w' => e = .returned (.tuple #[.int .i64 (i : Int), .nilIface]) ∧ TieSt w0 w' p m (i + 1) now) := by
  obtain ⟨V, S, h, h1, h2, h3, h4⟩ := h
  have hl : S.live.length = i := by rw [h4, row_len]
  have C := startSt h (by omega) (by omega) (10000 - now) (by omega) 0 (by omega) (by omega)
  rw [show ((10000 - now : Nat) : Int) = 10000 - (now : Int) by omega] at C
  refine C.mono ?_
  rintro e w' ⟨rfl, V', h', _⟩
  obtain ⟨f1, f2, f3, f4⟩ := startS_facts S (10000 - now) 0
  exact ⟨by rw [h2], V', _, h', by rw [f1, h1], by rw [f2, h2], by rw [f3, h3], by rw [f4, h1, h2, h4, row_succ]; simp; omega⟩

theorem tie_last {w0 w : World} {p m i now : Nat} (h : TieSt w0 w p m i now) (hi : i ≤ 100) (hn : now < 10000) :
    Calls Try.prog 11 #[.pointer (some ⟨p, 0, none⟩), .int .i64 10000] w (fun e w' => ∃ A c, e = .returned (.slice A i c) ∧ Sl w' (.slice A i c) (List.range i) ∧ Keep Nothing w0 w') := by
  obtain ⟨V, S, h, h1, h2, h3, h4⟩ := h
  refine (tickSt h (by omega) (by omega) 10000 (by omega) (by omega)).mono ?_
  rintro e w' ⟨vg, V', S', rfl, h', ha, _, hv, _⟩
  have t : ticksOf 10000 = 10000 := by decide
  rw [t] at ha hv
  have ex : expFrom S.live S.now (10000 + 1) = List.range i := by
    have e1 : 10000 + 1 = (10000 - now) + (1 + now) := by omega
    rw [e1, expFrom_add, expFrom_none _ _ _ (fun u hu => by rw [h4] at hu; have := row_mem hu; right; show S.now + (10000 - now) ≤ u.at_; omega),
      expFrom_add, expFrom_none _ _ now (fun u hu => by rw [h4] at hu; have := row_mem hu; left; show u.at_ < S.now + (10000 - now) + 1; omega), expFrom_one, h4]
    have e2 : (row i).filter (fun t => decide (t.at_ = S.now + (10000 - now))) = row i := List.filter_eq_self.2 (fun t ht => by have := row_mem ht; simp; omega)
    rw [e2, row_ids]; simp
  rw [ex] at hv
  obtain ⟨A, c, rfl, _⟩ := sl_shape hv
  rw [List.length_range] at hv ⊢
  exact ⟨A, c, rfl, hv, h'.2.2.1⟩
theorem own : ownKnob Try.prog.godebug = none := by kernel_rfl

set_option maxHeartbeats 1000000 in
set_option maxRecDepth 100000 in
theorem walk (A : Option Addr) (n c : Nat) (f : Nat → Int) (w : World) (hn : n ≤ c) (hc : c ≤ 9223372036854775807) (hi : IntsAt w A n f) :
    Calls Try.prog 3 #[.slice A n c] w fun e w' => e = .returned (.bool true) ∧ Below w.heap.size w w' := by
  have conN := Lib.hid (newSt w 200 (by omega) (by omega))
  unfold iv at conN
  have HI := Lib.hid hi
  clear hi
  go_enter Try.func3, Try.ntmps3
  go_wp2_with fail
  refine conN.out.mono ?_
  rintro e w1 ⟨p, m, V1, rfl, h1⟩
  have F1 : Hid (TieSt w w1 p m 0 0) := ⟨V1, S0 200, h1, rfl, rfl, rfl, rfl⟩
  clear conN h1
  by_cases hb : 100 < n
  · have hb1 : (n : Int) > 100 := by omega
    go_wp2_with fail
    go_loopw [5, 6] (fun s i wr => ∃ k now : Nat, k ≤ 100 ∧ now ≤ 49 * k ∧ s = .int .i64 (now : Int) ∧ i = .int .i64 (k : Int) ∧ TieSt w wr p m k now) (fun _ i _ => 100 - (intOf i).toNat)
    case atStart => exact ⟨0, 0, Nat.zero_le _, by omega, rfl, rfl, F1.out⟩
    case round =>
      clear F1
      obtain ⟨k, now, hk, hnow, rfl, rfl, hf⟩ := hrel
      by_cases hb : k < 100
      · have K0 := Lib.hid hf
        obtain ⟨V0, S0, hst, _⟩ := hf
        obtain ⟨b, o, rfl, hbl, hcell⟩ := (HI.out.keep hst.2.2.1).2 (by omega)
        have hck := hcell k (by omega)
        have bf := HI.out.1 k (by omega)
        have P3 := Lib.hid (place_any (f k) 50 wr bf.1 bf.2 (by omega) (by omega))
        have e0 : 0 ≤ f k % 50 ∧ f k % 50 < 50 := by omega
        obtain ⟨d, hd⟩ : ∃ d : Nat, (d : Int) = f k % 50 := ⟨(f k % 50).toNat, by omega⟩
        rw [← hd] at e0 P3
        clear hcell hst hd bf
        have C3 := Lib.hid (tie_tick K0.out (by omega) d (by omega) (by omega))
        clear K0
        go_wp2_with fail
        refine P3.out.mono ?_
        rintro e w3 ⟨rfl, rfl⟩
        clear P3 hck
        go_wp2_with fail
        refine C3.out.mono ?_
        rintro e w3 ⟨A3, c3, rfl, hf3⟩
        have C4 := Lib.hid (tie_start hf3 (by omega) (by omega))
        have e1 : Hid (((now + d : Nat) : Int) = (now : Int) + d) := by unfold Hid; omega
        rw [e1.out] at C4
        clear hf3 C3
        go_wp2_with fail
        refine C4.out.mono ?_
        rintro e w4 ⟨rfl, hf4⟩
        have F4 := Lib.hid hf4
        clear hf4 C4
        go_wp2_with fail
        exact ⟨⟨k + 1, now + d, by omega, by omega, by go_num, by go_num, F4.out⟩, by simp [intOf]; omega⟩
      · obtain rfl : k = 100 := by omega
        have C3 := Lib.hid (tie_last hf (by omega) (by omega))
        clear hf
        go_wp2_with fail
        refine C3.out.mono ?_
        rintro e w3 ⟨A3, c3, rfl, hs3, hk3⟩
        have S3 := Lib.hid hs3
        have K3 := Lib.hid hk3
        clear hs3 hk3 C3
        go_wp2_with fail
        go_loopw [11] (fun i wr => ∃ j : Nat, j ≤ 100 ∧ i = .int .i64 (j : Int) ∧ wr = w3) (fun i _ => 100 - (intOf i).toNat)
        case atStart => exact ⟨0, Nat.zero_le _, rfl, rfl⟩
        case round =>
          obtain ⟨j, hj, rfl, rfl⟩ := hrel
          by_cases hb3 : j < 100
          · rcases sl_cases S3.out with ⟨h1, h2⟩ | ⟨g3, c4, h1⟩
            · exact absurd (congrArg List.length h2) (by rw [List.length_range]; show ¬ 100 = 0; omega)
            · have e2 : Hid (A3 = some ⟨g3, 0, none⟩) := by unfold Hid; injection h1
              obtain rfl := e2.out
              have S4 := S3.out
              have hc3 : wr.cell? ⟨g3, j, none⟩ = some (.int .i64 (j : Int)) := sl_cell S4 (by rw [List.getElem?_range hb3])
              clear S4 h1
              go_wp2_with fail
              exact ⟨⟨j + 1, by omega, by go_num, trivial⟩, by simp [intOf]; omega⟩
          · obtain rfl : j = 100 := by omega
            go_wp2_with fail
            refine (awake_c _).mono ?_
            rintro e wA ⟨rfl, hkA⟩
            have K := Lib.hid (K3.out.trans hkA (fun _ _ h => h))
            clear hkA
            go_wp2_with fail
            go_ret
            exact ⟨rfl, K.out.below (Nat.le_refl _) (fun _ _ h => h)⟩
  · have hb1 : ¬ (n : Int) > 100 := by omega
    go_wp2_with fail
    go_loopw [5, 6] (fun s i wr => ∃ k now : Nat, k ≤ n ∧ now ≤ 49 * k ∧ s = .int .i64 (now : Int) ∧ i = .int .i64 (k : Int) ∧ TieSt w wr p m k now) (fun _ i _ => n - (intOf i).toNat)
    case atStart => exact ⟨0, 0, Nat.zero_le _, by omega, rfl, rfl, F1.out⟩
    case round =>
      clear F1
      obtain ⟨k, now, hk, hnow, rfl, rfl, hf⟩ := hrel
      by_cases hb : k < n
      · have K0 := Lib.hid hf
        obtain ⟨V0, S0, hst, _⟩ := hf
        obtain ⟨b, o, rfl, hbl, hcell⟩ := (HI.out.keep hst.2.2.1).2 (by omega)
        have hck := hcell k (by omega)
        have bf := HI.out.1 k (by omega)
        have P3 := Lib.hid (place_any (f k) 50 wr bf.1 bf.2 (by omega) (by omega))
        have e0 : 0 ≤ f k % 50 ∧ f k % 50 < 50 := by omega
        obtain ⟨d, hd⟩ : ∃ d : Nat, (d : Int) = f k % 50 := ⟨(f k % 50).toNat, by omega⟩
        rw [← hd] at e0 P3
        clear hcell hst hd bf
        have C3 := Lib.hid (tie_tick K0.out (by omega) d (by omega) (by omega))
        clear K0
        go_wp2_with fail
        refine P3.out.mono ?_
        rintro e w3 ⟨rfl, rfl⟩
        clear P3 hck
        go_wp2_with fail
        refine C3.out.mono ?_
        rintro e w3 ⟨A3, c3, rfl, hf3⟩
        have C4 := Lib.hid (tie_start hf3 (by omega) (by omega))
        have e1 : Hid (((now + d : Nat) : Int) = (now : Int) + d) := by unfold Hid; omega
        rw [e1.out] at C4
        clear hf3 C3
        go_wp2_with fail
        refine C4.out.mono ?_
        rintro e w4 ⟨rfl, hf4⟩
        have F4 := Lib.hid hf4
        clear hf4 C4
        go_wp2_with fail
        exact ⟨⟨k + 1, now + d, by omega, by omega, by go_num, by go_num, F4.out⟩, by simp [intOf]; omega⟩
      · obtain rfl : n = k := by omega
        have C3 := Lib.hid (tie_last hf (by omega) (by omega))
        clear hf
        go_wp2_with fail
        refine C3.out.mono ?_
        rintro e w3 ⟨A3, c3, rfl, hs3, hk3⟩
        have S3 := Lib.hid hs3
        have K3 := Lib.hid hk3
        clear hs3 hk3 C3
        go_wp2_with fail
        go_loopw [11] (fun i wr => ∃ j : Nat, j ≤ n ∧ i = .int .i64 (j : Int) ∧ wr = w3) (fun i _ => n - (intOf i).toNat)
        case atStart => exact ⟨0, Nat.zero_le _, rfl, rfl⟩
        case round =>
          obtain ⟨j, hj, rfl, rfl⟩ := hrel
          by_cases hb3 : j < n
          · rcases sl_cases S3.out with ⟨h1, h2⟩ | ⟨g3, c4, h1⟩
            · exact absurd (congrArg List.length h2) (by rw [List.length_range]; show ¬ n = 0; omega)
            · have e2 : Hid (A3 = some ⟨g3, 0, none⟩) := by unfold Hid; injection h1
              obtain rfl := e2.out
              have S4 := S3.out
              have hc3 : wr.cell? ⟨g3, j, none⟩ = some (.int .i64 (j : Int)) := sl_cell S4 (by rw [List.getElem?_range hb3])
              clear S4 h1
              go_wp2_with fail
              exact ⟨⟨j + 1, by omega, by go_num, trivial⟩, by simp [intOf]; omega⟩
          · obtain rfl : j = n := by omega
            go_wp2_with fail
            refine (awake_c _).mono ?_
            rintro e wA ⟨rfl, hkA⟩
            have K := Lib.hid (K3.out.trans hkA (fun _ _ h => h))
            clear hkA
            go_wp2_with fail
            go_ret
            exact ⟨rfl, K.out.below (Nat.le_refl _) (fun _ _ h => h)⟩

set_option maxRecDepth 100000 in
theorem lifted (os : Os) (started : os.Started) (H : Type) (enc : TypeId × Value → H) :
    ReturnsInHanded {} Try.checked os 3 .any (Rows.wheelTiesSpec.pre6 enc Try.prog Try.f3 Rows.wheelTiesRow.domain false) (Rows.wheelTiesSpec.post enc Try.prog Try.f3 false true false false) := by
  refine returnsInHanded_of_change (C := Try.checked) own started (by kernel_rfl) Try.func3
    (ChangeSpec.witness6 (enc := enc) (C := Try.checked) false ⟨#[], #[.slice none 0 0], []⟩ 8 (by kernel_rfl) (by kernel_rfl) (by kernel_rfl) (by kernel_rfl)) ?_
  intro W base args ds gs before hval0 hW hcnd _
  have hval : ∀ (j : Nat) t v, Try.f3.params[j]? = some t → args[j]? = some v → Value.okWide Try.prog W .any base t v := hval0
  have hW' := hW
  obtain ⟨p, q, hA0, hV, rfl, hfz, hnd⟩ := hW
  have hA : DataW.TrodAll enc Try.prog W 0 (fun _ => true) true Try.f3.params.toList args.toList ds p := hA0
  rw [Try.params3] at hA hval
  obtain ⟨v0, vs0, d0, ds0, p0, q0, hargs, rfl, rfl, h0, r0⟩ := trodAll_cons hA
  obtain ⟨rfl, rfl, rfl⟩ := trodAll_nil r0
  obtain rfl : args = #[v0] := by cases args; simp_all
  obtain ⟨A0, n0, c0, f0, rfl, hn0, hc0, hz0, hi0⟩ := ints_open Try.underlying22 (hval 0 22 v0 rfl rfl) h0
  refine (walk A0 n0 c0 f0 W hn0 hc0 hi0).mono fun e W' ⟨he, hg⟩ => ?_
  subst he
  exact ⟨_, rfl, LawKit.law_post (tb := 4) (by kernel_rfl) Try.underlying4 rfl (by kernel_rfl) rfl hW' ⟨rfl, rfl, rfl⟩ hg⟩

theorem over : Rows.wheelTiesRow.holds Try.pinned (OpenSpec.ofChange Rows.wheelTiesSpec) :=
  OpenClaim.holds_of_wide 3 Try.f3 rfl rfl rfl rfl rfl rfl rfl ⟨rfl, rfl, rfl, rfl, rfl⟩ rfl rfl rfl rfl rfl (by kernel_rfl) Try.func3 (by kernel_rfl)
    (of_decide_eq_true (by kernel_rfl)) (by unfold Func.isWrapper; first | (rw [if_pos (by decide +kernel)]; kernel_rfl) | (rw [if_neg (by decide +kernel)]; exact ⟨rfl, rfl⟩))
    (fun os started H enc _ => lifted os started H enc)

theorem proved : Rows.WheelTiesSaid :=
  over
#print axioms proved
end Go.Proofs.Ytlbdfhbkemikgaa.wheelTies

/- The statement FairRounds is proved: a script of rounds is fair by as many entries as there are workers, and by no fewer; with one left out it is not; under no condition. -/
import Derived.Test.YtniopaimhncmkaaRows
import Derived.Test.YtniopaimhncmkaaCopyD
import Derived.Test.YtniopaimhncmkaaRounds
import Derived.Test.YtniopaimhncmkaaLawKit
set_option linter.unusedVariables false
set_option linter.unusedSimpArgs false
namespace Go.Proofs.Ytniopaimhncmkaa.fairRounds
open Go.ChangeShapes Go.WideShapes Go.ChangeAt Go.RowKit Go.Proofs.Ytniopaimhncmkaa.Plain

theorem own : ownKnob Try.prog.godebug = none := by kernel_rfl

def entZ (e : Ent) : List Value :=
  [.int .i64 e.kind, .int .i64 e.a, .int .i64 e.b, .string ⟨#[]⟩, .int .i64 0, .int .i64 0, .string ⟨#[]⟩, .slice none 0 0, .slice none 0 0, .slice none 0 0]

def EntZ (xs : List Value) (i : Nat) (e : Ent) : Prop := ∀ j, j < 10 → xs[i * 10 + j]? = (entZ e)[j]?

theorem EntZ.more {xs ys : List Value} {i k : Nat} {e : Ent} (h : EntZ xs i e) (hl : xs.length = k * 10) (hi : i < k) : EntZ (xs ++ ys) i e := fun j hj => by
  rw [List.getElem?_append_left (by omega)]; exact h j hj

theorem EntZ.new {xs : List Value} {k : Nat} (hl : xs.length = k * 10) (e : Ent) : EntZ (xs ++ entZ e) k e := fun j hj => by
  rw [List.getElem?_append_right (by omega)]; congr 1; omega

theorem EntZ.put {xs : List Value} {g : Nat} {e : Ent} (h : EntZ xs g e) (hl : g * 10 + 10 ≤ xs.length) : EntZ (xs.set (g * 10 + 2) (.int .i64 0)) g ⟨e.kind, e.a, 0⟩ := fun j hj => by
  rw [List.getElem?_set]
  by_cases e2 : j = 2
  · subst e2
    rw [if_pos rfl, if_pos (by omega)]; rfl
  · rw [if_neg (by omega), h j hj]
    match j, e2, hj with
    | 0, _, _ => rfl
    | 1, _, _ => rfl
    | 3, _, _ => rfl
    | 4, _, _ => rfl
    | 5, _, _ => rfl
    | 6, _, _ => rfl
    | 7, _, _ => rfl
    | 8, _, _ => rfl
    | 9, _, _ => rfl

theorem EntZ.kept {xs : List Value} {i g : Nat} {e : Ent} (h : EntZ xs i e) (hne : i ≠ g) : EntZ (xs.set (g * 10 + 2) (.int .i64 0)) i e := fun j hj => by
  rw [List.getElem?_set, if_neg (by omega)]; exact h j hj

theorem scriptT_own {w : World} {base n : Nat} {v : Value} {xs : List Value} {f : Nat → Ent} (h : w.ownsRow base 34 10 v n xs) (hn : n ≤ 1000) (hx : ∀ i, i < n → EntZ xs i (f i))
    (hr : ∀ i, -9223372036854775808 ≤ (f i).a ∧ (f i).a ≤ 9223372036854775807) : ∃ A c, v = .slice A n c ∧ n ≤ c ∧ ScriptT w A n f := by
  have hh := h
  rcases h.2 with ⟨rfl, rfl⟩ | ⟨g, cap, cur, rfl, _, hg, hnc, _⟩
  · exact ⟨none, 0, rfl, Nat.le_refl _, by omega, hr, fun h => by omega⟩
  · refine ⟨_, cap, rfl, hnc, by omega, hr, fun _ => ⟨g, 0, rfl, (Array.getElem?_eq_some_iff.1 hg).1, fun i hi => ?_⟩⟩
    have m : ∀ j, j < 10 → w.cell? ⟨g, 0 + i * 10 + j, none⟩ = (entZ (f i))[j]? := fun j hj => by
      rw [Nat.zero_add, hh.cellAt _ (by omega), hx i hi j hj]
    refine ⟨⟨#[]⟩, [.int .i64 0, .int .i64 0, .string ⟨#[]⟩, .slice none 0 0, .slice none 0 0, .slice none 0 0], 1, m 0 (by omega), m 1 (by omega), m 2 (by omega), m 3 (by omega), ?_, fun j hj => ?_⟩
    · rw [TermAt]
      exact ⟨0, 0, _, _, _, _, rfl, TermsAt.nil w 0 none 0 (fun _ => rfl), TermsAt.nil w 0 none 0 (fun _ => rfl), none, 0, 0, rfl, fun _ => ⟨rfl, rfl⟩, by omega, fun h => by omega⟩
    · have := m (4 + j) (by omega)
      rw [show 0 + i * 10 + 4 + j = 0 + i * 10 + (4 + j) by omega, this]
      match j, hj with
      | 0, _ => rfl
      | 1, _ => rfl
      | 2, _ => rfl
      | 3, _ => rfl
      | 4, _ => rfl
      | 5, _ => rfl

theorem roundF_bounds (w : Nat) (hw : 0 < w) (hw8 : w ≤ 8) (i : Nat) : -9223372036854775808 ≤ (roundF w i).a ∧ (roundF w i).a ≤ 9223372036854775807 := by
  show -9223372036854775808 ≤ (i : Int) % (w : Int) ∧ (i : Int) % (w : Int) ≤ 9223372036854775807
  have h1 := Int.emod_nonneg (i : Int) (b := (w : Int)) (by omega)
  have h2 := Int.emod_lt_of_pos (i : Int) (b := (w : Int)) (by omega)
  omega

theorem goneF_bounds (w g : Nat) (hw : 0 < w) (hw8 : w ≤ 8) (i : Nat) : -9223372036854775808 ≤ (goneF w g i).a ∧ (goneF w g i).a ≤ 9223372036854775807 := by
  unfold goneF
  split
  · show -9223372036854775808 ≤ (i : Int) % (w : Int) ∧ (i : Int) % (w : Int) ≤ 9223372036854775807
    have h1 := Int.emod_nonneg (i : Int) (b := (w : Int)) (by omega)
    have h2 := Int.emod_lt_of_pos (i : Int) (b := (w : Int)) (by omega)
    omega
  · exact roundF_bounds w hw hw8 i

def RRel (w : World) (W N : Nat) (v9 v10 : Value) (wr : World) : Prop :=
  ∃ (i : Nat) (xs : List Value), i ≤ N ∧ v10 = .int .i64 i ∧ wr.ownsRow w.heap.size 34 10 v9 i xs ∧ (∀ j, j < i → EntZ xs j (roundF W j)) ∧ Below w.heap.size w wr

theorem own_form {w : World} {base n : Nat} {v : Value} {xs : List Value} (h : w.ownsRow base 34 10 v n xs) (hn : 0 < n) : ∃ g cap, v = .slice (some ⟨g, 0, none⟩) n cap ∧ base ≤ g ∧ n ≤ cap := by
  rcases h.2 with ⟨_, h0⟩ | ⟨g, cap, cur, rfl, hb, _, hnc, _⟩
  · omega
  · exact ⟨g, cap, rfl, hb, hnc⟩

set_option maxHeartbeats 4000000 in
set_option maxRecDepth 100000 in
theorem walk (a0 a1 a2 : Int) (w0 : (Lit.int .i64 a0).wf = true) (w1 : (Lit.int .i64 a1).wf = true) (w2 : (Lit.int .i64 a2).wf = true) (w : World) :
    Calls Try.prog 7 #[.int .i64 a0, .int .i64 a1, .int .i64 a2] w fun e w' => e = .returned (.bool true) ∧ Below w.heap.size w w' := by
  have b0 : -9223372036854775808 ≤ a0 ∧ a0 ≤ 9223372036854775807 := by simp [Lit.wf, IntKind.min, IntKind.max, IntKind.signed, IntKind.bits] at w0; omega
  have b1 : -9223372036854775808 ≤ a1 ∧ a1 ≤ 9223372036854775807 := by simp [Lit.wf, IntKind.min, IntKind.max, IntKind.signed, IntKind.bits] at w1; omega
  have b2 : -9223372036854775808 ≤ a2 ∧ a2 ≤ 9223372036854775807 := by simp [Lit.wf, IntKind.min, IntKind.max, IntKind.signed, IntKind.bits] at w2; omega
  have P0 := Lib.hid fun X => place_any a0 8 X b0.1 b0.2 (by omega) (by omega)
  have P1 := Lib.hid fun X => place_any a1 6 X b1.1 b1.2 (by omega) (by omega)
  have P2 := Lib.hid fun (M : Int) (h1 : 1 ≤ M) (h2 : M ≤ 1000000000000) X => place_any a2 M X b2.1 b2.2 h1 h2
  clear w0 w1 w2 b0 b1 b2
  obtain ⟨W, hW⟩ : ∃ W : Nat, 1 + a0 % 8 = W := ⟨(1 + a0 % 8).toNat, by omega⟩
  obtain ⟨M, hM⟩ : ∃ M : Nat, 2 + a1 % 6 = M := ⟨(2 + a1 % 6).toNat, by omega⟩
  have x1 : 1 ≤ W := by omega
  have x2 : W ≤ 8 := by omega
  have x3 : 2 ≤ M := by omega
  have x4 : M ≤ 7 := by omega
  have e0 : a0 % 8 = (W : Int) - 1 := by omega
  have e1 : a1 % 6 = (M : Int) - 2 := by omega
  rw [e0] at P0
  rw [e1] at P1
  clear e0 e1 hW hM
  obtain ⟨N, hN⟩ : ∃ N : Nat, M * W = N := ⟨_, rfl⟩
  have n1 : 2 * W ≤ N := by rw [← hN]; exact Nat.mul_le_mul_right W x3
  have n2 : N ≤ 56 := by rw [← hN]; exact Nat.mul_le_mul x4 x2
  have n3 : (M : Int) * (W : Int) ≤ N := by rw [← hN]; omega
  have n4 : (N : Int) ≤ (M : Int) * (W : Int) := by rw [← hN]; omega
  clear hN
  obtain ⟨i0, hi, hz0, hz1, hz2⟩ := info_parts Try.entryInfo
  have HI := Lib.hid hi
  have HZ0 := Lib.hid hz0
  have HZ1 := Lib.hid hz1
  have HZ2 := Lib.hid hz2
  clear hi hz0 hz1 hz2
  go_enter Try.func7, Try.ntmps7
  go_wp2_with fail
  refine (P0.out _).mono ?_
  rintro e w2 ⟨rfl, rfl⟩
  go_wp2_with fail
  refine (P1.out _).mono ?_
  rintro e w2 ⟨rfl, rfl⟩
  go_wp2_with fail
  rw [show 1 + ((W : Int) - 1) = (W : Int) by omega, show 2 + ((M : Int) - 2) = (M : Int) by omega]
  go_loopw [9, 10] (RRel w W N) (fun _ i _ => N - (intOf i).toNat)
  case atStart => exact ⟨0, [], Nat.zero_le _, rfl, World.ownsRow_nil _ _ _ _, fun j h => by omega, Below.refl _ _⟩
  case round =>
    obtain ⟨i, xs, hiN, rfl, hown, hxs, hbel⟩ := hrel
    have HOWN := Lib.hid hown
    have HXS := Lib.hid hxs
    clear hown hxs
    by_cases hin : i < N
    · have m1 : 0 ≤ (i : Int) % (W : Int) := Int.emod_nonneg _ (by omega)
      have m2 : (i : Int) % (W : Int) < W := Int.emod_lt_of_pos _ (by omega)
      go_wp2_with (at_builtin
                   refine wpList_append_own _ rfl _ _ 25 rfl w.heap.size 34 i0 _ 10 144 Try.underlying25 HI.out HZ0.out HZ1.out HZ2.out rfl (by decide) _ _ _ rfl (HOWN.out.alloc _) ⟨wr.heap.size, 0, none⟩ 1 1 (entZ (roundF W i)) rfl rfl ?c1 ?c2 ?c3 ?c4 ?c5 ?_)
      case c1 => exact news_at wr _ 34
      case c2 => simp [Value.oneCell', entZ]
      case c3 => unfold maxLen; omega
      case c4 => omega
      case c5 => have := hbel.size; simp; omega
      intro v3 w3 hown3 hg3 _
      have hb3 := below_own (w1 := wr.alloc _) hbel HOWN.out ((Below.refl _ _).alloc hbel.size _) hg3
      clear hg3
      go_wp2_with fail
      refine ⟨⟨i + 1, _, hin, by go_num, hown3, fun j hj => ?_, hb3⟩, by simp [intOf]; omega⟩
      by_cases e : j < i
      · exact (HXS.out j e).more HOWN.out.1 e
      · obtain rfl : j = i := by omega
        exact EntZ.new HOWN.out.1 _
    · obtain rfl : i = N := by omega
      obtain ⟨b, cap, rfl, hbw, hcap⟩ := own_form HOWN.out (by omega)
      obtain ⟨A0, c0, e0, hc0, hs0⟩ := scriptT_own HOWN.out (by omega) HXS.out (roundF_bounds W x1 x2)
      simp only [Value.slice.injEq, true_and] at e0
      obtain ⟨rfl, rfl⟩ := e0
      have HT := Lib.hid hs0
      clear hs0 hc0
      obtain ⟨G, hG⟩ : ∃ G : Nat, a2 % ((M : Int) * (W : Int)) = G := ⟨(a2 % ((M : Int) * (W : Int))).toNat, by have := Int.emod_nonneg a2 (b := (M : Int) * (W : Int)) (by omega); omega⟩
      have g1 : G < i := by have := Int.emod_lt_of_pos a2 (b := (M : Int) * (W : Int)) (by omega); omega
      have PG := Lib.hid fun X => P2.out ((M : Int) * (W : Int)) (by omega) (by omega) X
      rw [hG] at PG
      clear hG P2
      have L1 := Lib.hid (round_least W i x1 (by omega))
      obtain ⟨Lm, hLm⟩ : ∃ Lm : Int, least (goneF W G) i W = Lm := ⟨_, rfl⟩
      have L2 := gone_least W i G x1 n1 g1
      rw [hLm] at L2
      obtain ⟨L2, L3⟩ := L2
      have HLm := Lib.hid hLm
      clear hLm
      have F1 : Hid (fairB (roundF W) i W W = true) := by unfold Hid fairB; rw [L1.out]; simp; omega
      have F2 : Hid (fairB (roundF W) i W ((W : Int) - 1) = false) := by unfold Hid fairB; rw [L1.out]; simp; omega
      have F3 : Hid (fairB (goneF W G) i ((W : Int) + 1) ((M : Int) * (W : Int)) = false) := by
        have h := gone_more W i G x1 (by omega)
        unfold Hid fairB
        simp only [Bool.and_eq_false_iff, decide_eq_false_iff_not]
        exact .inr (fun h' => h (by omega))
      go_wp2_with fail
      refine (copyScript_any _ i cap _ _ HT.out).mono ?_
      rintro e w1 ⟨A1, c1, rfl, hc1, hs1, hb1⟩
      have HS1 := Lib.hid hs1
      clear hs1
      go_wp2_with fail
      refine (least_any A1 i c1 _ W _ HS1.out (by omega) hc1 (by omega)).mono ?_
      rw [L1.out]
      rintro e w2 ⟨rfl, hb2⟩
      have B2 := hb1.trans (hb2.mono hb1.size)
      clear HS1 hb1 hb2 hc1
      go_wp2_with fail
      refine (copyScript_any _ i cap _ _ (HT.out.below B2)).mono ?_
      rintro e w3 ⟨A3, c3, rfl, hc3, hs3, hb3⟩
      have HS3 := Lib.hid hs3
      clear hs3
      go_wp2_with fail
      refine (fair_any A3 i c3 _ W W _ HS3.out (by omega) hc3 (by omega)).mono ?_
      rw [F1.out]
      rintro e w4 ⟨rfl, hb4⟩
      have B4 := B2.trans ((hb3.trans (hb4.mono hb3.size)).mono B2.size)
      clear HS3 hb3 hb4 hc3 B2
      by_cases hW1 : 1 < W
      · go_wp2_with fail
        refine (copyScript_any _ i cap _ _ (HT.out.below B4)).mono ?_
        rintro e w5 ⟨A5, c5, rfl, hc5, hs5, hb5⟩
        have HS5 := Lib.hid hs5
        clear hs5
        go_wp2_with fail
        refine (fair_any A5 i c5 _ W ((W : Int) - 1) _ HS5.out (by omega) hc5 (by omega)).mono ?_
        rw [F2.out]
        rintro e w5b ⟨rfl, hb5b⟩
        have B5 := B4.trans ((hb5.trans (hb5b.mono hb5.size)).mono B4.size)
        clear HS5 hb5 hb5b hc5 B4
        go_wp2_with fail
        refine (PG.out _).mono ?_
        rintro e wz ⟨rfl, rfl⟩
        have hown5 := own_below HOWN.out B5
        have k1 : w5b.cell? ⟨b, G * 10 + 2, none⟩ = some (.int .i64 (1 + (G : Int))) := by
          rw [hown5.cellAt _ (by omega), HXS.out G g1 2 (by omega)]; rfl
        have k2 : w5b.frozen? ⟨b, G * 10 + 2, none⟩ = false := hown5.frozenAt _
        have hown6 := (hown5.stored (G * 10 + 2) (.int .i64 0)).1
        have B6 := (hbel.trans (B5.mono hbel.size)).setCell (p := ⟨b, G * 10 + 2, none⟩) hbw (.int .i64 0)
        obtain ⟨A0, c0, e0, hc0, hs0⟩ := scriptT_own hown6 (by omega) (f := goneF W G) (fun j hj => by
          unfold goneF
          by_cases e : j = G
          · subst e
            rw [if_pos rfl]
            exact (HXS.out j hj).put (by rw [HOWN.out.1]; omega)
          · rw [if_neg e]
            exact (HXS.out j hj).kept e) (goneF_bounds W G x1 x2)
        simp only [Value.slice.injEq, true_and] at e0
        obtain ⟨rfl, rfl⟩ := e0
        have HT6 := Lib.hid hs0
        clear hs0 hc0 hown5 hown6 HT
        go_upto_region 12 with (fail)
        obtain ⟨w6, hw6⟩ : ∃ w6 : World, w5b.setCell ⟨b, G * 10 + 2, none⟩ (.int .i64 0) = w6 := ⟨_, rfl⟩
        rw [hw6] at HT6 B6 ⊢
        clear hw6 k1 k2 B5
        go_wp2_with fail
        refine (copyScript_any _ i cap _ _ HT6.out).mono ?_
        rintro e w7 ⟨A7, c7, rfl, hc7, hs7, hb7⟩
        have HS7 := Lib.hid hs7
        clear hs7
        go_wp2_with fail
        refine (least_any A7 i c7 _ W _ HS7.out (by omega) hc7 (by omega)).mono ?_
        rw [HLm.out]
        rintro e w8 ⟨rfl, hb8⟩
        have B8 := hb7.trans (hb8.mono hb7.size)
        have C8 := B6.trans (B8.mono B6.size)
        clear HS7 hb7 hb8 hc7
        go_wp2_with fail
        refine (copyScript_any _ i cap _ _ (HT6.out.below B8)).mono ?_
        rintro e w9 ⟨A9, c9, rfl, hc9, hs9, hb9⟩
        have HS9 := Lib.hid hs9
        clear hs9
        go_wp2_with fail
        refine (fair_any A9 i c9 _ ((W : Int) + 1) ((M : Int) * (W : Int)) _ HS9.out (by omega) hc9 (by omega)).mono ?_
        rw [F3.out]
        rintro e w10 ⟨rfl, hb10⟩
        have C10 := C8.trans ((hb9.trans (hb10.mono hb9.size)).mono C8.size)
        clear HS9 hb9 hb10 hc9 B8 C8
        go_wp2_with fail
        refine (awake_any _).mono ?_
        rintro e w11 ⟨rfl, hb11⟩
        have C11 := C10.trans (hb11.mono C10.size)
        go_wp2_with fail
        go_ret
        exact ⟨rfl, C11⟩
      · go_wp2_with fail
        refine (PG.out _).mono ?_
        rintro e wz ⟨rfl, rfl⟩
        have hown5 := own_below HOWN.out B4
        have k1 : w4.cell? ⟨b, G * 10 + 2, none⟩ = some (.int .i64 (1 + (G : Int))) := by
          rw [hown5.cellAt _ (by omega), HXS.out G g1 2 (by omega)]; rfl
        have k2 : w4.frozen? ⟨b, G * 10 + 2, none⟩ = false := hown5.frozenAt _
        have hown6 := (hown5.stored (G * 10 + 2) (.int .i64 0)).1
        have B6 := (hbel.trans (B4.mono hbel.size)).setCell (p := ⟨b, G * 10 + 2, none⟩) hbw (.int .i64 0)
        obtain ⟨A0, c0, e0, hc0, hs0⟩ := scriptT_own hown6 (by omega) (f := goneF W G) (fun j hj => by
          unfold goneF
          by_cases e : j = G
          · subst e
            rw [if_pos rfl]
            exact (HXS.out j hj).put (by rw [HOWN.out.1]; omega)
          · rw [if_neg e]
            exact (HXS.out j hj).kept e) (goneF_bounds W G x1 x2)
        simp only [Value.slice.injEq, true_and] at e0
        obtain ⟨rfl, rfl⟩ := e0
        have HT6 := Lib.hid hs0
        clear hs0 hc0 hown5 hown6 HT
        go_upto_region 12 with (fail)
        obtain ⟨w6, hw6⟩ : ∃ w6 : World, w4.setCell ⟨b, G * 10 + 2, none⟩ (.int .i64 0) = w6 := ⟨_, rfl⟩
        rw [hw6] at HT6 B6 ⊢
        clear hw6 k1 k2 B4
        go_wp2_with fail
        refine (copyScript_any _ i cap _ _ HT6.out).mono ?_
        rintro e w7 ⟨A7, c7, rfl, hc7, hs7, hb7⟩
        have HS7 := Lib.hid hs7
        clear hs7
        go_wp2_with fail
        refine (least_any A7 i c7 _ W _ HS7.out (by omega) hc7 (by omega)).mono ?_
        rw [HLm.out]
        rintro e w8 ⟨rfl, hb8⟩
        have B8 := hb7.trans (hb8.mono hb7.size)
        have C8 := B6.trans (B8.mono B6.size)
        clear HS7 hb7 hb8 hc7
        go_wp2_with fail
        refine (copyScript_any _ i cap _ _ (HT6.out.below B8)).mono ?_
        rintro e w9 ⟨A9, c9, rfl, hc9, hs9, hb9⟩
        have HS9 := Lib.hid hs9
        clear hs9
        go_wp2_with fail
        refine (fair_any A9 i c9 _ ((W : Int) + 1) ((M : Int) * (W : Int)) _ HS9.out (by omega) hc9 (by omega)).mono ?_
        rw [F3.out]
        rintro e w10 ⟨rfl, hb10⟩
        have C10 := C8.trans ((hb9.trans (hb10.mono hb9.size)).mono C8.size)
        clear HS9 hb9 hb10 hc9 B8 C8
        go_wp2_with fail
        refine (awake_any _).mono ?_
        rintro e w11 ⟨rfl, hb11⟩
        have C11 := C10.trans (hb11.mono C10.size)
        go_wp2_with fail
        go_ret
        exact ⟨rfl, C11⟩

set_option maxRecDepth 100000 in
theorem lifted (os : Os) (started : os.Started) (H : Type) (enc : TypeId × Value → H) :
    ReturnsInHanded {} Try.checked os 7 .any (Rows.fairRoundsSpec.pre6 enc Try.prog Try.f7 Rows.fairRoundsRow.domain false) (Rows.fairRoundsSpec.post enc Try.prog Try.f7 false true false false) := by
  refine returnsInHanded_of_change (C := Try.checked) own started (by kernel_rfl) Try.func7
    (ChangeSpec.witness6 (enc := enc) (C := Try.checked) false ⟨#[], #[.int .i64 0, .int .i64 0, .int .i64 0], []⟩ 8 (by kernel_rfl) (by kernel_rfl) (by kernel_rfl) (by kernel_rfl)) ?_
  intro W base args ds gs before hval0 hW hcnd _
  have hval : ∀ (j : Nat) t v, Try.f7.params[j]? = some t → args[j]? = some v → Value.okWide Try.prog W .any base t v := hval0
  have hW' := hW
  obtain ⟨p, q, hA0, hV, rfl, hfz, hnd⟩ := hW
  have hA : DataW.TrodAll enc Try.prog W 0 (fun _ => true) true Try.f7.params.toList args.toList ds p := hA0
  rw [Try.params7] at hA hval
  obtain ⟨v0, vs0, d0, ds0, p0, q0, hargs, rfl, rfl, h0, r0⟩ := trodAll_cons hA
  obtain ⟨v1, vs1, d1, ds1, p1, q1, rfl, rfl, rfl, h1, r1⟩ := trodAll_cons r0
  obtain ⟨v2, vs2, d2, ds2, p2, q2, rfl, rfl, rfl, h2, r2⟩ := trodAll_cons r1
  obtain ⟨rfl, rfl, rfl⟩ := trodAll_nil r2
  obtain rfl : args = #[v0, v1, v2] := by cases args; simp_all
  obtain ⟨a0, rfl, rfl, rfl, w0⟩ := open_int Try.underlying3 (hval 0 3 v0 rfl rfl) h0
  obtain ⟨a1, rfl, rfl, rfl, w1⟩ := open_int Try.underlying3 (hval 1 3 v1 rfl rfl) h1
  obtain ⟨a2, rfl, rfl, rfl, w2⟩ := open_int Try.underlying3 (hval 2 3 v2 rfl rfl) h2
  refine (walk a0 a1 a2 w0 w1 w2 W).mono fun e W' ⟨he, hg⟩ => ?_
  subst he
  exact ⟨_, rfl, LawKit.law_post (tb := 4) (by kernel_rfl) Try.underlying4 rfl (by kernel_rfl) rfl hW' ⟨rfl, rfl, rfl⟩ hg⟩

theorem over : Rows.fairRoundsRow.holds Try.pinned (OpenSpec.ofChange Rows.fairRoundsSpec) :=
  OpenClaim.holds_of_wide 7 Try.f7 rfl rfl rfl rfl rfl rfl rfl ⟨rfl, rfl, rfl, rfl, rfl⟩ rfl rfl rfl rfl rfl (by kernel_rfl) Try.func7 (by kernel_rfl)
    (of_decide_eq_true (by kernel_rfl)) (by unfold Func.isWrapper; first | (rw [if_pos (by decide +kernel)]; kernel_rfl) | (rw [if_neg (by decide +kernel)]; exact ⟨rfl, rfl⟩))
    (fun os started H enc _ => lifted os started H enc)

theorem proved : Rows.FairRoundsSaid :=
  over
#print axioms proved
end Go.Proofs.Ytniopaimhncmkaa.fairRounds

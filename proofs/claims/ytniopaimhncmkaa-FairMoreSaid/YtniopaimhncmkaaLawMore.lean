/- The statement FairMore is proved: a script that is fair by k is fair by any more, and by no fewer than the least; under no condition. -/
import Derived.Test.YtniopaimhncmkaaRows
import Derived.Test.YtniopaimhncmkaaOpen
import Derived.Test.YtniopaimhncmkaaRefA
import Derived.Test.YtniopaimhncmkaaLawKit
import Derived.SizedLaws
set_option linter.unusedVariables false
set_option linter.unusedSimpArgs false
namespace Go.Proofs.Ytniopaimhncmkaa.fairMore
open Go.ChangeShapes Go.WideShapes Go.ChangeAt Go.RowKit Go.Proofs.Ytniopaimhncmkaa.Plain

theorem own : ownKnob Try.prog.godebug = none := by kernel_rfl

set_option maxHeartbeats 4000000 in
set_option maxRecDepth 100000 in
theorem walk (A : Option Addr) (n c : Nat) (f : Nat → Ent) (W k : Int) (w : World) (wW : (Lit.int .i64 W).wf = true) (wk : (Lit.int .i64 k).wf = true) (hnil : A = none → n = 0 ∧ c = 0) (hnc : n ≤ c) (hT : ScriptT w A n f) :
    Calls Try.prog 6 #[.slice A n c, .int .i64 W, .int .i64 k] w fun e w' => e = .returned (.bool true) ∧ Below w.heap.size w w' := by
  have b0 : -9223372036854775808 ≤ W ∧ W ≤ 9223372036854775807 := by simp [Lit.wf, IntKind.min, IntKind.max, IntKind.signed, IntKind.bits] at wW; omega
  have b1 : -9223372036854775808 ≤ k ∧ k ≤ 9223372036854775807 := by simp [Lit.wf, IntKind.min, IntKind.max, IntKind.signed, IntKind.bits] at wk; omega
  have PW := Lib.hid fun X => place_any W 5 X b0.1 b0.2 (by omega) (by omega)
  have PK := Lib.hid fun X => place_any k 70 X b1.1 b1.2 (by omega) (by omega)
  clear wW wk b0 b1
  by_cases h60 : 60 < n
  · obtain ⟨b, o, rfl, hb, _⟩ := hT.2.2 (by omega)
    have HT := Lib.hid (hT.less (m := 60) (by omega))
    clear hT hnil
    obtain ⟨L, hL⟩ : ∃ L : Int, least f 60 (W % 5) = L := ⟨_, rfl⟩
    have lb := least_bounds f 60 (W % 5)
    rw [hL] at lb
    have F1 : fairB f 60 (W % 5) L = true := by unfold fairB; rw [hL]; simp; omega
    have F2 : fairB f 60 (W % 5) (L + k % 70) = true := by unfold fairB; rw [hL]; simp; omega
    have F3 : fairB f 60 (W % 5) (L - 1) = false := by unfold fairB; rw [hL]; simp; omega
    have HL := Lib.hid hL
    have HF1 := Lib.hid F1
    have HF2 := Lib.hid F2
    have HF3 := Lib.hid F3
    clear hL F1 F2 F3
    obtain ⟨V, hV⟩ : ∃ V : Int, W % 5 = V := ⟨_, rfl⟩
    obtain ⟨R, hR⟩ : ∃ R : Int, k % 70 = R := ⟨_, rfl⟩
    have v1 : 0 ≤ V ∧ V ≤ 4 := by omega
    have r1 : 0 ≤ R ∧ R ≤ 69 := by omega
    rw [hV] at HL HF1 HF2 HF3 PW
    rw [hR] at HF2 PK
    clear hV hR
    obtain ⟨v1, v2⟩ := v1
    obtain ⟨r1, r2⟩ := r1
    obtain ⟨l1, l2⟩ := lb
    go_enter Try.func6, Try.ntmps6
    go_wp2_with fail
    refine (PW.out _).mono ?_
    rintro e w2 ⟨rfl, rfl⟩
    go_wp2_with fail
    refine (copyScript_any _ 60 c f _ HT.out).mono ?_
    rintro e w1 ⟨A1, c1, rfl, hc1, hs1, hb1⟩
    have HS1 := Lib.hid hs1
    clear hs1
    go_wp2_with fail
    refine (least_any A1 60 c1 f V _ HS1.out (by omega) hc1 (by omega)).mono ?_
    rw [HL.out]
    rintro e w2 ⟨rfl, hb2⟩
    have B2 := hb1.trans (hb2.mono hb1.size)
    clear HS1 hb1 hb2 hc1
    go_wp2_with fail
    refine (copyScript_any _ 60 c f _ (HT.out.below B2)).mono ?_
    rintro e w3 ⟨A3, c3, rfl, hc3, hs3, hb3⟩
    have HS3 := Lib.hid hs3
    clear hs3
    go_wp2_with fail
    refine (fair_any A3 60 c3 f V L _ HS3.out (by omega) hc3 (by omega)).mono ?_
    rw [HF1.out]
    rintro e w4 ⟨rfl, hb4⟩
    have B4 := B2.trans ((hb3.trans (hb4.mono hb3.size)).mono B2.size)
    clear HS3 hb3 hb4 hc3 B2
    go_wp2_with fail
    refine (copyScript_any _ 60 c f _ (HT.out.below B4)).mono ?_
    rintro e w5 ⟨A5, c5, rfl, hc5, hs5, hb5⟩
    have HS5 := Lib.hid hs5
    clear hs5
    go_wp2_with fail
    refine (PK.out _).mono ?_
    rintro e w6 ⟨rfl, rfl⟩
    go_wp2_with fail
    refine (fair_any A5 60 c5 f V (L + R) _ HS5.out (by omega) hc5 (by omega)).mono ?_
    rw [HF2.out]
    rintro e w6 ⟨rfl, hb6⟩
    have B6 := B4.trans ((hb5.trans (hb6.mono hb5.size)).mono B4.size)
    clear HS5 hb5 hb6 hc5 B4
    go_wp2_with fail
    refine (copyScript_any _ 60 c f _ (HT.out.below B6)).mono ?_
    rintro e w7 ⟨A7, c7, rfl, hc7, hs7, hb7⟩
    have HS7 := Lib.hid hs7
    clear hs7
    go_wp2_with fail
    refine (fair_any A7 60 c7 f V (L - 1) _ HS7.out (by omega) hc7 (by omega)).mono ?_
    rw [HF3.out]
    rintro e w8 ⟨rfl, hb8⟩
    have B8 := B6.trans ((hb7.trans (hb8.mono hb7.size)).mono B6.size)
    clear HS7 hb7 hb8 hc7 B6
    go_wp2_with fail
    refine (awake_any _).mono ?_
    rintro e w9 ⟨rfl, hb9⟩
    have B9 := B8.trans (hb9.mono B8.size)
    go_wp2_with fail
    go_ret
    exact ⟨rfl, B9⟩
  · have HT := Lib.hid hT
    have h59 : n ≤ 60 := by omega
    clear hT hnil
    obtain ⟨L, hL⟩ : ∃ L : Int, least f n (W % 5) = L := ⟨_, rfl⟩
    have lb := least_bounds f n (W % 5)
    rw [hL] at lb
    have F1 : fairB f n (W % 5) L = true := by unfold fairB; rw [hL]; simp; omega
    have F2 : fairB f n (W % 5) (L + k % 70) = true := by unfold fairB; rw [hL]; simp; omega
    have F3 : fairB f n (W % 5) (L - 1) = false := by unfold fairB; rw [hL]; simp; omega
    have HL := Lib.hid hL
    have HF1 := Lib.hid F1
    have HF2 := Lib.hid F2
    have HF3 := Lib.hid F3
    clear hL F1 F2 F3
    obtain ⟨V, hV⟩ : ∃ V : Int, W % 5 = V := ⟨_, rfl⟩
    obtain ⟨R, hR⟩ : ∃ R : Int, k % 70 = R := ⟨_, rfl⟩
    have v1 : 0 ≤ V ∧ V ≤ 4 := by omega
    have r1 : 0 ≤ R ∧ R ≤ 69 := by omega
    rw [hV] at HL HF1 HF2 HF3 PW
    rw [hR] at HF2 PK
    clear hV hR
    obtain ⟨v1, v2⟩ := v1
    obtain ⟨r1, r2⟩ := r1
    obtain ⟨l1, l2⟩ := lb
    go_enter Try.func6, Try.ntmps6
    go_wp2_with fail
    refine (PW.out _).mono ?_
    rintro e w2 ⟨rfl, rfl⟩
    go_wp2_with fail
    refine (copyScript_any _ n c f _ HT.out).mono ?_
    rintro e w1 ⟨A1, c1, rfl, hc1, hs1, hb1⟩
    have HS1 := Lib.hid hs1
    clear hs1
    go_wp2_with fail
    refine (least_any A1 n c1 f V _ HS1.out (by omega) hc1 (by omega)).mono ?_
    rw [HL.out]
    rintro e w2 ⟨rfl, hb2⟩
    have B2 := hb1.trans (hb2.mono hb1.size)
    clear HS1 hb1 hb2 hc1
    go_wp2_with fail
    refine (copyScript_any _ n c f _ (HT.out.below B2)).mono ?_
    rintro e w3 ⟨A3, c3, rfl, hc3, hs3, hb3⟩
    have HS3 := Lib.hid hs3
    clear hs3
    go_wp2_with fail
    refine (fair_any A3 n c3 f V L _ HS3.out (by omega) hc3 (by omega)).mono ?_
    rw [HF1.out]
    rintro e w4 ⟨rfl, hb4⟩
    have B4 := B2.trans ((hb3.trans (hb4.mono hb3.size)).mono B2.size)
    clear HS3 hb3 hb4 hc3 B2
    go_wp2_with fail
    refine (copyScript_any _ n c f _ (HT.out.below B4)).mono ?_
    rintro e w5 ⟨A5, c5, rfl, hc5, hs5, hb5⟩
    have HS5 := Lib.hid hs5
    clear hs5
    go_wp2_with fail
    refine (PK.out _).mono ?_
    rintro e w6 ⟨rfl, rfl⟩
    go_wp2_with fail
    refine (fair_any A5 n c5 f V (L + R) _ HS5.out (by omega) hc5 (by omega)).mono ?_
    rw [HF2.out]
    rintro e w6 ⟨rfl, hb6⟩
    have B6 := B4.trans ((hb5.trans (hb6.mono hb5.size)).mono B4.size)
    clear HS5 hb5 hb6 hc5 B4
    go_wp2_with fail
    refine (copyScript_any _ n c f _ (HT.out.below B6)).mono ?_
    rintro e w7 ⟨A7, c7, rfl, hc7, hs7, hb7⟩
    have HS7 := Lib.hid hs7
    clear hs7
    go_wp2_with fail
    refine (fair_any A7 n c7 f V (L - 1) _ HS7.out (by omega) hc7 (by omega)).mono ?_
    rw [HF3.out]
    rintro e w8 ⟨rfl, hb8⟩
    have B8 := B6.trans ((hb7.trans (hb8.mono hb7.size)).mono B6.size)
    clear HS7 hb7 hb8 hc7 B6
    go_wp2_with fail
    refine (awake_any _).mono ?_
    rintro e w9 ⟨rfl, hb9⟩
    have B9 := B8.trans (hb9.mono B8.size)
    go_wp2_with fail
    go_ret
    exact ⟨rfl, B9⟩

set_option maxRecDepth 100000 in
theorem lifted (os : Os) (started : os.Started) (H : Type) (enc : TypeId × Value → H) :
    ReturnsInHanded {} Try.checked os 6 .any (Rows.fairMoreSpec.pre6 enc Try.prog Try.f6 Rows.fairMoreRow.domain false) (Rows.fairMoreSpec.post enc Try.prog Try.f6 false true false false) := by
  refine returnsInHanded_of_change_sized (C := Try.checked) own started (by kernel_rfl) Try.func6
    (ChangeSpec.witness6 (enc := enc) (C := Try.checked) false ⟨#[], #[.slice none 0 0, .int .i64 0, .int .i64 0], []⟩ 8 (by kernel_rfl) (by kernel_rfl) (by kernel_rfl) (by kernel_rfl)) ?_
  intro W base args ds gs before hval0 hW hcnd hwt _
  have hval : ∀ (j : Nat) t v, Try.f6.params[j]? = some t → args[j]? = some v → Value.okWide Try.prog W .any base t v := hval0
  have hW' := hW
  obtain ⟨p, q, hA0, hV, rfl, hfz, hnd⟩ := hW
  have hA : DataW.TrodAll enc Try.prog W 0 (fun _ => true) true Try.f6.params.toList args.toList ds p := hA0
  rw [Try.params6] at hA hval
  obtain ⟨v0, vs0, d0, ds0, p0, q0, hargs, rfl, rfl, h0, r0⟩ := trodAll_cons hA
  obtain ⟨v1, vs1, d1, ds1, p1, q1, rfl, rfl, rfl, h1, r1⟩ := trodAll_cons r0
  obtain ⟨v2, vs2, d2, ds2, p2, q2, rfl, rfl, rfl, h2, r2⟩ := trodAll_cons r1
  obtain ⟨rfl, rfl, rfl⟩ := trodAll_nil r2
  obtain rfl : args = #[v0, v1, v2] := by cases args; simp_all
  have hl0 : Light Try.prog 25 d0 := fun n hn => by
    have := List.all_eq_true.1 hwt n (each_mem _ _ 0 25 d0 rfl rfl n hn)
    have := of_decide_eq_true this
    unfold reachBytes at this
    omega
  obtain ⟨A, n, c, f, rfl, hnil, hnc, hT⟩ := script_open h0 hl0 (okWide_slice Try.underlying25 (hval 0 25 v0 rfl rfl))
  obtain ⟨a1, rfl, rfl, rfl, w1⟩ := open_int Try.underlying3 (hval 1 3 v1 rfl rfl) h1
  obtain ⟨a2, rfl, rfl, rfl, w2⟩ := open_int Try.underlying3 (hval 2 3 v2 rfl rfl) h2
  refine (walk A n c f a1 a2 W w1 w2 hnil hnc hT).mono fun e W' ⟨he, hg⟩ => ?_
  subst he
  exact ⟨_, rfl, LawKit.law_post (tb := 4) (by kernel_rfl) Try.underlying4 rfl (by kernel_rfl) rfl hW' ⟨rfl, rfl, rfl⟩ hg⟩

theorem over : Rows.fairMoreRow.holds Try.pinned (OpenSpec.ofChange Rows.fairMoreSpec) :=
  OpenClaim.holds_of_wide 6 Try.f6 rfl rfl rfl rfl rfl rfl rfl ⟨rfl, rfl, rfl, rfl, rfl⟩ rfl rfl rfl rfl rfl (by kernel_rfl) Try.func6 (by kernel_rfl)
    (of_decide_eq_true (by kernel_rfl)) (by unfold Func.isWrapper; first | (rw [if_pos (by decide +kernel)]; kernel_rfl) | (rw [if_neg (by decide +kernel)]; exact ⟨rfl, rfl⟩))
    (fun os started H enc _ => lifted os started H enc)

theorem proved : Rows.FairMoreSaid :=
  over
#print axioms proved
end Go.Proofs.Ytniopaimhncmkaa.fairMore

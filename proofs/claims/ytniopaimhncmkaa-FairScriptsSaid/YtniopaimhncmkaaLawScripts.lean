/- The statement FairScripts is proved: of any script, workers and k the program's Fair and Least answer as the document's do; under no condition. -/
import Derived.Test.YtniopaimhncmkaaRows
import Derived.Test.YtniopaimhncmkaaOpen
import Derived.Test.YtniopaimhncmkaaRefA
import Derived.Test.YtniopaimhncmkaaLawKit
import Derived.SizedLaws
set_option linter.unusedVariables false
set_option linter.unusedSimpArgs false
namespace Go.Proofs.Ytniopaimhncmkaa.fairScripts
open Go.ChangeShapes Go.WideShapes Go.ChangeAt Go.RowKit Go.Proofs.Ytniopaimhncmkaa.Plain

theorem own : ownKnob Try.prog.godebug = none := by kernel_rfl

set_option maxHeartbeats 4000000 in
set_option maxRecDepth 100000 in
theorem walk (A : Option Addr) (n c : Nat) (f : Nat → Ent) (W k : Int) (w : World) (hnil : A = none → n = 0 ∧ c = 0) (hnc : n ≤ c) (hT : ScriptT w A n f) :
    Calls Try.prog 5 #[.slice A n c, .int .i64 W, .int .i64 k] w fun e w' => e = .returned (.bool true) ∧ Below w.heap.size w w' := by
  by_cases h60 : 60 < n
  · obtain ⟨b, o, rfl, hb, _⟩ := hT.2.2 (by omega)
    have HT := Lib.hid (hT.less (m := 60) (by omega))
    clear hT hnil
    by_cases h100 : 100 < W
    · go_enter Try.func5, Try.ntmps5
      go_wp2_with fail
      refine (copyScript_any _ 60 c f _ HT.out).mono ?_
      rintro e w1 ⟨A1, c1, rfl, hc1, hs1, hb1⟩
      have HS1 := Lib.hid hs1
      clear hs1
      go_wp2_with fail
      refine (fair_any A1 60 c1 f 100 k _ HS1.out (by omega) hc1 (by omega)).mono ?_
      rintro e w2 ⟨rfl, hb2⟩
      have B2 := hb1.trans (hb2.mono hb1.size)
      go_wp2_with fail
      refine (refFair_any _ 60 c f 100 k _ ((HT.out.below B2).at) (by omega) (by omega)).mono ?_
      rintro e w3 ⟨rfl, hb3⟩
      have B3 := B2.trans (hb3.mono B2.size)
      clear B2 hb3 hb2 hb1 HS1
      go_wp2_with fail
      refine (copyScript_any _ 60 c f _ (HT.out.below B3)).mono ?_
      rintro e w4 ⟨A4, c4, rfl, hc4, hs4, hb4⟩
      have HS4 := Lib.hid hs4
      clear hs4
      have B4 := B3.trans (hb4.mono B3.size)
      go_wp2_with fail
      refine (least_any A4 60 c4 f 100 _ HS4.out (by omega) hc4 (by omega)).mono ?_
      rintro e w5 ⟨rfl, hb5⟩
      have B5 := B4.trans (hb5.mono B4.size)
      clear B3 B4 hb4 hb5
      go_wp2_with fail
      refine (refLeast_any _ 60 c f 100 _ ((HT.out.below B5).at) (by omega) (by omega)).mono ?_
      rintro e w6 ⟨rfl, hb6⟩
      have B6 := B5.trans (hb6.mono B5.size)
      clear B5 hb6
      go_wp2_with fail
      refine (awake_any _).mono ?_
      rintro e w7 ⟨rfl, hb7⟩
      have B7 := B6.trans (hb7.mono B6.size)
      go_wp2_with fail
      go_ret
      exact ⟨rfl, B7⟩
    · go_enter Try.func5, Try.ntmps5
      go_wp2_with fail
      refine (copyScript_any _ 60 c f _ HT.out).mono ?_
      rintro e w1 ⟨A1, c1, rfl, hc1, hs1, hb1⟩
      have HS1 := Lib.hid hs1
      clear hs1
      go_wp2_with fail
      refine (fair_any A1 60 c1 f W k _ HS1.out (by omega) hc1 (by omega)).mono ?_
      rintro e w2 ⟨rfl, hb2⟩
      have B2 := hb1.trans (hb2.mono hb1.size)
      go_wp2_with fail
      refine (refFair_any _ 60 c f W k _ ((HT.out.below B2).at) (by omega) (by omega)).mono ?_
      rintro e w3 ⟨rfl, hb3⟩
      have B3 := B2.trans (hb3.mono B2.size)
      clear B2 hb3 hb2 hb1 HS1
      go_wp2_with fail
      refine (copyScript_any _ 60 c f _ (HT.out.below B3)).mono ?_
      rintro e w4 ⟨A4, c4, rfl, hc4, hs4, hb4⟩
      have HS4 := Lib.hid hs4
      clear hs4
      have B4 := B3.trans (hb4.mono B3.size)
      go_wp2_with fail
      refine (least_any A4 60 c4 f W _ HS4.out (by omega) hc4 (by omega)).mono ?_
      rintro e w5 ⟨rfl, hb5⟩
      have B5 := B4.trans (hb5.mono B4.size)
      clear B3 B4 hb4 hb5
      go_wp2_with fail
      refine (refLeast_any _ 60 c f W _ ((HT.out.below B5).at) (by omega) (by omega)).mono ?_
      rintro e w6 ⟨rfl, hb6⟩
      have B6 := B5.trans (hb6.mono B5.size)
      clear B5 hb6
      go_wp2_with fail
      refine (awake_any _).mono ?_
      rintro e w7 ⟨rfl, hb7⟩
      have B7 := B6.trans (hb7.mono B6.size)
      go_wp2_with fail
      go_ret
      exact ⟨rfl, B7⟩
  · have HT := Lib.hid hT
    have h59 : n ≤ 60 := by omega
    clear hT hnil
    by_cases h100 : 100 < W
    · go_enter Try.func5, Try.ntmps5
      go_wp2_with fail
      refine (copyScript_any _ n c f _ HT.out).mono ?_
      rintro e w1 ⟨A1, c1, rfl, hc1, hs1, hb1⟩
      have HS1 := Lib.hid hs1
      clear hs1
      go_wp2_with fail
      refine (fair_any A1 n c1 f 100 k _ HS1.out (by omega) hc1 (by omega)).mono ?_
      rintro e w2 ⟨rfl, hb2⟩
      have B2 := hb1.trans (hb2.mono hb1.size)
      go_wp2_with fail
      refine (refFair_any _ n c f 100 k _ ((HT.out.below B2).at) (by omega) (by omega)).mono ?_
      rintro e w3 ⟨rfl, hb3⟩
      have B3 := B2.trans (hb3.mono B2.size)
      clear B2 hb3 hb2 hb1 HS1
      go_wp2_with fail
      refine (copyScript_any _ n c f _ (HT.out.below B3)).mono ?_
      rintro e w4 ⟨A4, c4, rfl, hc4, hs4, hb4⟩
      have HS4 := Lib.hid hs4
      clear hs4
      have B4 := B3.trans (hb4.mono B3.size)
      go_wp2_with fail
      refine (least_any A4 n c4 f 100 _ HS4.out (by omega) hc4 (by omega)).mono ?_
      rintro e w5 ⟨rfl, hb5⟩
      have B5 := B4.trans (hb5.mono B4.size)
      clear B3 B4 hb4 hb5
      go_wp2_with fail
      refine (refLeast_any _ n c f 100 _ ((HT.out.below B5).at) (by omega) (by omega)).mono ?_
      rintro e w6 ⟨rfl, hb6⟩
      have B6 := B5.trans (hb6.mono B5.size)
      clear B5 hb6
      go_wp2_with fail
      refine (awake_any _).mono ?_
      rintro e w7 ⟨rfl, hb7⟩
      have B7 := B6.trans (hb7.mono B6.size)
      go_wp2_with fail
      go_ret
      exact ⟨rfl, B7⟩
    · go_enter Try.func5, Try.ntmps5
      go_wp2_with fail
      refine (copyScript_any _ n c f _ HT.out).mono ?_
      rintro e w1 ⟨A1, c1, rfl, hc1, hs1, hb1⟩
      have HS1 := Lib.hid hs1
      clear hs1
      go_wp2_with fail
      refine (fair_any A1 n c1 f W k _ HS1.out (by omega) hc1 (by omega)).mono ?_
      rintro e w2 ⟨rfl, hb2⟩
      have B2 := hb1.trans (hb2.mono hb1.size)
      go_wp2_with fail
      refine (refFair_any _ n c f W k _ ((HT.out.below B2).at) (by omega) (by omega)).mono ?_
      rintro e w3 ⟨rfl, hb3⟩
      have B3 := B2.trans (hb3.mono B2.size)
      clear B2 hb3 hb2 hb1 HS1
      go_wp2_with fail
      refine (copyScript_any _ n c f _ (HT.out.below B3)).mono ?_
      rintro e w4 ⟨A4, c4, rfl, hc4, hs4, hb4⟩
      have HS4 := Lib.hid hs4
      clear hs4
      have B4 := B3.trans (hb4.mono B3.size)
      go_wp2_with fail
      refine (least_any A4 n c4 f W _ HS4.out (by omega) hc4 (by omega)).mono ?_
      rintro e w5 ⟨rfl, hb5⟩
      have B5 := B4.trans (hb5.mono B4.size)
      clear B3 B4 hb4 hb5
      go_wp2_with fail
      refine (refLeast_any _ n c f W _ ((HT.out.below B5).at) (by omega) (by omega)).mono ?_
      rintro e w6 ⟨rfl, hb6⟩
      have B6 := B5.trans (hb6.mono B5.size)
      clear B5 hb6
      go_wp2_with fail
      refine (awake_any _).mono ?_
      rintro e w7 ⟨rfl, hb7⟩
      have B7 := B6.trans (hb7.mono B6.size)
      go_wp2_with fail
      go_ret
      exact ⟨rfl, B7⟩

set_option maxRecDepth 100000 in
theorem lifted (os : Os) (started : os.Started) (H : Type) (enc : TypeId × Value → H) :
    ReturnsInHanded {} Try.checked os 5 .any (Rows.fairScriptsSpec.pre6 enc Try.prog Try.f5 Rows.fairScriptsRow.domain false) (Rows.fairScriptsSpec.post enc Try.prog Try.f5 false true false false) := by
  refine returnsInHanded_of_change_sized (C := Try.checked) own started (by kernel_rfl) Try.func5
    (ChangeSpec.witness6 (enc := enc) (C := Try.checked) false ⟨#[], #[.slice none 0 0, .int .i64 0, .int .i64 0], []⟩ 8 (by kernel_rfl) (by kernel_rfl) (by kernel_rfl) (by kernel_rfl)) ?_
  intro W base args ds gs before hval0 hW hcnd hwt _
  have hval : ∀ (j : Nat) t v, Try.f5.params[j]? = some t → args[j]? = some v → Value.okWide Try.prog W .any base t v := hval0
  have hW' := hW
  obtain ⟨p, q, hA0, hV, rfl, hfz, hnd⟩ := hW
  have hA : DataW.TrodAll enc Try.prog W 0 (fun _ => true) true Try.f5.params.toList args.toList ds p := hA0
  rw [Try.params5] at hA hval
  obtain ⟨v0, vs0, d0, ds0, p0, q0, hargs, rfl, rfl, h0, r0⟩ := trodAll_cons hA
  obtain ⟨v1, vs1, d1, ds1, p1, q1, rfl, rfl, rfl, h1, r1⟩ := trodAll_cons r0
  obtain ⟨v2, vs2, d2, ds2, p2, q2, rfl, rfl, rfl, h2, r2⟩ := trodAll_cons r1
  obtain ⟨rfl, rfl, rfl⟩ := trodAll_nil r2
  obtain rfl : args = #[v0, v1, v2] := by cases args; simp_all
  have hl0 : Light Try.prog 25 d0 := fun n hn => by
    have := List.all_eq_true.1 hwt n (each_mem _ _ 0 25 d0 rfl rfl n hn)
    have := of_decide_eq_true this
    unfold reachBytes at this
    omega
  obtain ⟨A, n, c, f, rfl, hnil, hnc, hT⟩ := script_open h0 hl0 (okWide_slice Try.underlying25 (hval 0 25 v0 rfl rfl))
  obtain ⟨a1, rfl, rfl, rfl, w1⟩ := open_int Try.underlying3 (hval 1 3 v1 rfl rfl) h1
  obtain ⟨a2, rfl, rfl, rfl, w2⟩ := open_int Try.underlying3 (hval 2 3 v2 rfl rfl) h2
  refine (walk A n c f a1 a2 W hnil hnc hT).mono fun e W' ⟨he, hg⟩ => ?_
  subst he
  exact ⟨_, rfl, LawKit.law_post (tb := 4) (by kernel_rfl) Try.underlying4 rfl (by kernel_rfl) rfl hW' ⟨rfl, rfl, rfl⟩ hg⟩

theorem over : Rows.fairScriptsRow.holds Try.pinned (OpenSpec.ofChange Rows.fairScriptsSpec) :=
  OpenClaim.holds_of_wide 5 Try.f5 rfl rfl rfl rfl rfl rfl rfl ⟨rfl, rfl, rfl, rfl, rfl⟩ rfl rfl rfl rfl rfl (by kernel_rfl) Try.func5 (by kernel_rfl)
    (of_decide_eq_true (by kernel_rfl)) (by unfold Func.isWrapper; first | (rw [if_pos (by decide +kernel)]; kernel_rfl) | (rw [if_neg (by decide +kernel)]; exact ⟨rfl, rfl⟩))
    (fun os started H enc _ => lifted os started H enc)

theorem proved : Rows.FairScriptsSaid :=
  over
#print axioms proved
end Go.Proofs.Ytniopaimhncmkaa.fairScripts

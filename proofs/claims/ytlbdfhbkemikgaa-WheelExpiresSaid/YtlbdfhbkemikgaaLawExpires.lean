/- The statement WheelExpires is proved: each timer expires in just the Tick that reaches its time, unless it was cancelled ahead of that; none expires twice. -/
import Derived.Test.YtlbdfhbkemikgaaRows
import Derived.Test.YtlbdfhbkemikgaaExpA
import Derived.Test.YtlbdfhbkemikgaaExpB
set_option linter.unusedVariables false
set_option linter.unusedSimpArgs false
namespace Go.Proofs.Ytlbdfhbkemikgaa.wheelExpires
open Go.ChangeShapes Go.WideShapes Go.ChangeAt Go.RowKit
open Plain


theorem own : ownKnob Try.prog.godebug = none := by kernel_rfl

theorem walk (A : Option Addr) (n c : Nat) (f : Nat → Int) (A1 : Option Addr) (n1 c1 : Nat) (f1 : Nat → Int) (A2 : Option Addr) (n2 c2 : Nat) (f2 : Nat → Int) (w : World) (hn : n ≤ c) (hc : c ≤ 9223372036854775807) (hi : IntsAt w A n f)
    (hn1 : n1 ≤ c1) (hc1 : c1 ≤ 9223372036854775807) (hi1 : IntsAt w A1 n1 f1) (hn2 : n2 ≤ c2) (hc2 : c2 ≤ 9223372036854775807) (hi2 : IntsAt w A2 n2 f2) :
    Calls Try.prog 6 #[.slice A n c, .slice A1 n1 c1, .slice A2 n2 c2] w fun e w' => e = .returned (.bool true) ∧ Below w.heap.size w w' := by
  by_cases h : 500 < n
  · exact walk_cut A n c f A1 n1 c1 f1 A2 n2 c2 f2 w hn hc hi hn1 hc1 hi1 hn2 hc2 hi2 h
  · exact walk_less A n c f A1 n1 c1 f1 A2 n2 c2 f2 w hn hc hi hn1 hc1 hi1 hn2 hc2 hi2 (by omega)

set_option maxRecDepth 100000 in
theorem lifted (os : Os) (started : os.Started) (H : Type) (enc : TypeId × Value → H) :
    ReturnsInHanded {} Try.checked os 6 .any (Rows.wheelExpiresSpec.pre6 enc Try.prog Try.f6 Rows.wheelExpiresRow.domain false) (Rows.wheelExpiresSpec.post enc Try.prog Try.f6 false true false false) := by
  refine returnsInHanded_of_change (C := Try.checked) own started (by kernel_rfl) Try.func6
    (ChangeSpec.witness6 (enc := enc) (C := Try.checked) false ⟨#[], #[.slice none 0 0, .slice none 0 0, .slice none 0 0], []⟩ 8 (by kernel_rfl) (by kernel_rfl) (by kernel_rfl) (by kernel_rfl)) ?_
  intro W base args ds gs before hval0 hW hcnd _
  have hval : ∀ (j : Nat) t v, Try.f6.params[j]? = some t → args[j]? = some v → Value.okWide Try.prog W .any base t v := hval0
  have hW' := hW
  obtain ⟨p, q, hA0, hV, rfl, hfz, hnd⟩ := hW
  have hA : DataW.TrodAll enc Try.prog W 0 (fun _ => true) true Try.f6.params.toList args.toList ds p := hA0
  rw [Try.params6] at hA hval
  obtain ⟨v0, vs0, d0, ds0, p0, q0, hargs, rfl, rfl, h0, r0⟩ := trodAll_cons hA
  obtain ⟨v1, vs1, d1, ds1, p1, q1, rfl, rfl, rfl, h1, r1⟩ := trodAll_cons r0
  obtain ⟨v2, vs2, d2, ds2, p2, q2, rfl, rfl, rfl, h2, r2⟩ := trodAll_cons r1
  obtain ⟨rfl, rfl, rfl⟩ := trodAll_nil r2
  obtain rfl : args = #[v0, v1, v2] := by cases args; simp_all
  obtain ⟨A0, n0, c0, f0, rfl, hn0, hc0, hz0, hi0⟩ := ints_open Try.underlying22 (hval 0 22 v0 rfl rfl) h0
  obtain ⟨A1, n1, c1, f1, rfl, hn1, hc1, hz1, hi1⟩ := ints_open Try.underlying22 (hval 1 22 v1 rfl rfl) h1
  obtain ⟨A2, n2, c2, f2, rfl, hn2, hc2, hz2, hi2⟩ := ints_open Try.underlying22 (hval 2 22 v2 rfl rfl) h2
  refine (walk A0 n0 c0 f0 A1 n1 c1 f1 A2 n2 c2 f2 W hn0 hc0 hi0 hn1 hc1 hi1 hn2 hc2 hi2).mono fun e W' ⟨he, hg⟩ => ?_
  subst he
  exact ⟨_, rfl, LawKit.law_post (tb := 4) (by kernel_rfl) Try.underlying4 rfl (by kernel_rfl) rfl hW' ⟨rfl, rfl, rfl⟩ hg⟩

theorem over : Rows.wheelExpiresRow.holds Try.pinned (OpenSpec.ofChange Rows.wheelExpiresSpec) :=
  OpenClaim.holds_of_wide 6 Try.f6 rfl rfl rfl rfl rfl rfl rfl ⟨rfl, rfl, rfl, rfl, rfl⟩ rfl rfl rfl rfl rfl (by kernel_rfl) Try.func6 (by kernel_rfl)
    (of_decide_eq_true (by kernel_rfl)) (by unfold Func.isWrapper; first | (rw [if_pos (by decide +kernel)]; kernel_rfl) | (rw [if_neg (by decide +kernel)]; exact ⟨rfl, rfl⟩))
    (fun os started H enc _ => lifted os started H enc)

theorem proved : Rows.WheelExpiresSaid :=
  over
#print axioms proved
end Go.Proofs.Ytlbdfhbkemikgaa.wheelExpires

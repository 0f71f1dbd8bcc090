/- The statement FairGrows is proved: the bound grows by k with each Batch that is pending; under no condition. -/
import Derived.Test.YtniopaimhncmkaaRows
import Derived.Test.YtniopaimhncmkaaWalkD
import Derived.Test.YtniopaimhncmkaaLawKit
set_option linter.unusedVariables false
set_option linter.unusedSimpArgs false
namespace Go.Proofs.Ytniopaimhncmkaa.fairGrows
open Go.ChangeShapes Go.WideShapes Go.ChangeAt Go.RowKit

theorem own : ownKnob Try.prog.godebug = none := by kernel_rfl

theorem bound_small (a p : Int) (h0 : 1 ≤ a) (h1 : a ≤ 1001) (h2 : 0 ≤ p) (h3 : p ≤ 100010) : boundI a p = a * (p / 4 + 1) := by
  unfold boundI
  rw [if_neg (by omega), if_neg]
  have h4 : 0 < p / 4 + 1 := by omega
  intro h
  have h5 : 1001 ≤ 1125899906842624 / (p / 4 + 1) := (Int.le_ediv_iff_mul_le h4).2 (by omega)
  omega

theorem facts (a p : Int) (h0 : 1 ≤ a) (h1 : a ≤ 1000) (h2 : 0 ≤ p) (h3 : p ≤ 99999) : ∃ x : Int, boundI a p = x ∧ 0 < x ∧ x ≤ 100000000 ∧ x % a = 0 ∧ boundI a (p + 4) = x + a ∧ x ≤ boundI a (p + 1) ∧ boundI a (p + 1) ≤ 100000000 ∧ x < boundI (a + 1) p ∧ boundI (a + 1) p ≤ 100000000 ∧
    p < x / a * 4 ∧ 0 ≤ x / a ∧ x / a ≤ 100000 := by
  refine ⟨a * (p / 4 + 1), bound_small a p h0 (by omega) h2 (by omega), ?_⟩
  rw [bound_small a (p + 4) h0 (by omega) (by omega) (by omega), bound_small a (p + 1) h0 (by omega) (by omega) (by omega), bound_small (a + 1) p (by omega) (by omega) h2 (by omega)]
  have e1 : (p + 4) / 4 + 1 = (p / 4 + 1) + 1 := by omega
  have e2 : p / 4 + 1 ≤ (p + 1) / 4 + 1 := by omega
  have e3 : (p + 1) / 4 + 1 ≤ 25001 := by omega
  have e4 : p < (p / 4 + 1) * 4 := by omega
  have e5 : p / 4 + 1 ≤ 25000 := by omega
  generalize p / 4 + 1 = t at *
  have ht : 1 ≤ t := by omega
  generalize (p + 1) / 4 + 1 = u at *
  have m1 : a * t ≤ 1000 * 25000 := Int.mul_le_mul h1 e5 (by omega) (by omega)
  have m2 : a * u ≤ 1000 * 25001 := Int.mul_le_mul h1 e3 (by omega) (by omega)
  have m3 : 1 * 1 ≤ a * t := Int.mul_le_mul h0 ht (by omega) (by omega)
  have m4 : a * t ≤ a * u := Int.mul_le_mul_of_nonneg_left e2 (by omega)
  rw [e1, Int.mul_add, Int.add_mul, Int.mul_ediv_cancel_left _ (by omega : a ≠ 0), Int.mul_emod_right]
  refine ⟨by omega, by omega, rfl, by omega, m4, by omega, by omega, by omega, by omega, by omega, by omega⟩

theorem walk (a0 : Int) (a1 : Int) (w0 : (Lit.int .i64 a0).wf = true) (w1 : (Lit.int .i64 a1).wf = true) (w : World) :
    Calls Try.prog 4 #[.int .i64 a0, .int .i64 a1] w fun e w' => e = .returned (.bool true) ∧ Below w.heap.size w w' := by
  have b0 : -9223372036854775808 ≤ a0 ∧ a0 ≤ 9223372036854775807 := by simp [Lit.wf, IntKind.min, IntKind.max, IntKind.signed, IntKind.bits] at w0; omega
  have b1 : -9223372036854775808 ≤ a1 ∧ a1 ≤ 9223372036854775807 := by simp [Lit.wf, IntKind.min, IntKind.max, IntKind.signed, IntKind.bits] at w1; omega
  have P1 := Lib.hid fun W => place_any a0 1000 W b0.1 b0.2 (by omega) (by omega)
  have P2 := Lib.hid fun W => place_any a1 100000 W b1.1 b1.2 (by omega) (by omega)
  clear w0 w1 b0 b1
  have c1 : 0 ≤ a0 % 1000 ∧ a0 % 1000 ≤ 999 := by omega
  have c2 : 0 ≤ a1 % 100000 ∧ a1 % 100000 ≤ 99999 := by omega
  generalize a0 % 1000 = k at *
  generalize a1 % 100000 = p at *
  obtain ⟨c3, c4⟩ := c1
  obtain ⟨c5, c6⟩ := c2
  obtain ⟨x, f1, f2, f3, f4, f5, f6, f7, f8, f9, f10, f11, f12⟩ := facts (1 + k) p (by omega) (by omega) c5 c6
  have H1 := Lib.hid fun W => bound_any (1 + k) p W (by omega)
  have H2 := Lib.hid fun W => bound_any (1 + k) (p + 4) W (by omega)
  have H3 := Lib.hid fun W => bound_any (1 + k) (p + 1) W (by omega)
  have H4 := Lib.hid fun W => bound_any (1 + k + 1) p W (by omega)
  rw [f1] at H1
  rw [f5] at H2
  generalize boundI (1 + k) (p + 1) = y at *
  generalize boundI (1 + k + 1) p = z at *
  have d4 : (x % (1 + k) == 0) = true := by simpa using f4
  clear f1 f4 f5
  go_enter Try.func4, Try.ntmps4
  go_wp2_with fail
  refine (P1.out _).mono ?_
  rintro e w2 ⟨rfl, rfl⟩
  go_wp2_with fail
  refine (P2.out _).mono ?_
  rintro e w2 ⟨rfl, rfl⟩
  go_wp2_with fail
  refine (H1.out _).mono ?_
  rintro e w2 ⟨rfl, rfl⟩
  go_wp2_with fail
  refine (H2.out _).mono ?_
  rintro e w2 ⟨rfl, rfl⟩
  go_wp2_with fail
  refine (H3.out _).mono ?_
  rintro e w2 ⟨rfl, rfl⟩
  go_wp2_with fail
  refine (H4.out _).mono ?_
  rintro e w2 ⟨rfl, rfl⟩
  go_wp2_with fail
  refine (awake_any _).mono ?_
  rintro e w2 ⟨rfl, hb⟩
  go_wp2_with fail
  go_ret
  exact ⟨rfl, hb⟩

set_option maxRecDepth 100000 in
theorem lifted (os : Os) (started : os.Started) (H : Type) (enc : TypeId × Value → H) :
    ReturnsInHanded {} Try.checked os 4 .any (Rows.fairGrowsSpec.pre6 enc Try.prog Try.f4 Rows.fairGrowsRow.domain false) (Rows.fairGrowsSpec.post enc Try.prog Try.f4 false true false false) := by
  refine returnsInHanded_of_change (C := Try.checked) own started (by kernel_rfl) Try.func4
    (ChangeSpec.witness6 (enc := enc) (C := Try.checked) false ⟨#[], #[.int .i64 0, .int .i64 0], []⟩ 8 (by kernel_rfl) (by kernel_rfl) (by kernel_rfl) (by kernel_rfl)) ?_
  intro W base args ds gs before hval0 hW hcnd _
  have hval : ∀ (j : Nat) t v, Try.f4.params[j]? = some t → args[j]? = some v → Value.okWide Try.prog W .any base t v := hval0
  have hW' := hW
  obtain ⟨p, q, hA0, hV, rfl, hfz, hnd⟩ := hW
  have hA : DataW.TrodAll enc Try.prog W 0 (fun _ => true) true Try.f4.params.toList args.toList ds p := hA0
  rw [Try.params4] at hA hval
  obtain ⟨v0, vs0, d0, ds0, p0, q0, hargs, rfl, rfl, h0, r0⟩ := trodAll_cons hA
  obtain ⟨v1, vs1, d1, ds1, p1, q1, rfl, rfl, rfl, h1, r1⟩ := trodAll_cons r0
  obtain ⟨rfl, rfl, rfl⟩ := trodAll_nil r1
  obtain rfl : args = #[v0, v1] := by cases args; simp_all
  obtain ⟨a0, rfl, rfl, rfl, w0⟩ := open_int Try.underlying3 (hval 0 3 v0 rfl rfl) h0
  obtain ⟨a1, rfl, rfl, rfl, w1⟩ := open_int Try.underlying3 (hval 1 3 v1 rfl rfl) h1
  refine (walk a0 a1 w0 w1 W).mono fun e W' ⟨he, hg⟩ => ?_
  subst he
  exact ⟨_, rfl, LawKit.law_post (tb := 4) (by kernel_rfl) Try.underlying4 rfl (by kernel_rfl) rfl hW' ⟨rfl, rfl, rfl⟩ hg⟩

theorem over : Rows.fairGrowsRow.holds Try.pinned (OpenSpec.ofChange Rows.fairGrowsSpec) :=
  OpenClaim.holds_of_wide 4 Try.f4 rfl rfl rfl rfl rfl rfl rfl ⟨rfl, rfl, rfl, rfl, rfl⟩ rfl rfl rfl rfl rfl (by kernel_rfl) Try.func4 (by kernel_rfl)
    (of_decide_eq_true (by kernel_rfl)) (by unfold Func.isWrapper; first | (rw [if_pos (by decide +kernel)]; kernel_rfl) | (rw [if_neg (by decide +kernel)]; exact ⟨rfl, rfl⟩))
    (fun os started H enc _ => lifted os started H enc)

theorem proved : Rows.FairGrowsSaid :=
  over
#print axioms proved
end Go.Proofs.Ytniopaimhncmkaa.fairGrows

/- A row of numbers that is handed in, opened. -/
import Derived.Test.YtlbdfhbkemikgaaWalkJ
import Derived.ChangeSlices
import Derived.ProofKit
set_option linter.unusedVariables false
set_option linter.unusedSimpArgs false
namespace Go.Proofs.Ytlbdfhbkemikgaa
open Go.RowKit Plain Go.ChangeShapes Go.WideShapes Go.ChangeAt

def IntsAt (w : World) (A : Option Addr) (n : Nat) (f : Nat → Int) : Prop :=
  (∀ i, i < n → -9223372036854775808 ≤ f i ∧ f i ≤ 9223372036854775807) ∧
  (0 < n → ∃ b o, A = some ⟨b, o, none⟩ ∧ b < w.heap.size ∧ ∀ i, i < n → w.cell? ⟨b, o + i, none⟩ = some (.int .i64 (f i)))

theorem IntsAt.keep {w w' : World} {A : Option Addr} {n : Nat} {f : Nat → Int} (h : IntsAt w A n f) (hk : Keep Nothing w w') : IntsAt w' A n f := by
  refine ⟨h.1, fun hp => ?_⟩
  obtain ⟨b, o, rfl, hb, hc⟩ := h.2 hp
  exact ⟨b, o, rfl, Nat.lt_of_lt_of_le hb hk.size, fun i hi => (hk.cell hb (fun h => h)).trans (hc i hi)⟩

theorem IntsAt.less {w : World} {A : Option Addr} {n m : Nat} {f : Nat → Int} (h : IntsAt w A n f) (hm : m ≤ n) : IntsAt w A m f := by
  refine ⟨fun i hi => h.1 i (by omega), fun hp => ?_⟩
  obtain ⟨b, o, e, hb, hc⟩ := h.2 (by omega)
  exact ⟨b, o, e, hb, fun i hi => hc i (by omega)⟩

set_option maxRecDepth 100000 in
theorem ints_open {H : Type} {enc : TypeId × Value → H} {W : World} {v : Value} {d : DataW H} {ps : List MemPlace} {t : TypeId} {base : Nat} (ht : Try.prog.underlying t = some (.slice 3)) (hval : Value.okWide Try.prog W .any base t v)
    (h : DataW.Trod enc Try.prog W 0 (fun _ => true) true t v d ps) :
    ∃ A n c f, v = .slice A n c ∧ n ≤ c ∧ c ≤ 9223372036854775807 ∧ (A = none → c = 0) ∧ IntsAt W A n f := by
  obtain ⟨fuel, hf⟩ := h
  have key : ∀ cs x, DataW.trod enc Try.prog W 0 (fun _ => true) true fuel t cs = some x → ∃ A n c f, cs = [.slice A n c] ∧ n ≤ c ∧ c ≤ 9223372036854775807 ∧ (A = none → c = 0) ∧ IntsAt W A n f := by
    intro cs x hx
    rcases open_ints ht Try.underlying3 (by kernel_rfl) hx with ⟨rfl, _⟩ | ⟨a, len, cap, zs, rfl, _, hl, hm, hz, _, hc, hw⟩
    · exact ⟨none, 0, 0, fun _ => 0, rfl, by omega, by omega, fun _ => rfl, fun i hi => by omega, fun h => by omega⟩
    · obtain ⟨b, o, s⟩ := a
      refine ⟨_, len, cap, fun i => zs.getD i 0, rfl, hl, by unfold maxLen at hm; omega, (fun h => by cases h), fun i hi => ?_, fun hp => ?_⟩
      · have hi' : i < zs.length := by simp at hz; omega
        have := hw (zs.getD i 0) (by rw [List.getD_eq_getElem?_getD, List.getElem?_eq_getElem hi']; exact List.getElem_mem hi')
        simp [Lit.wf, IntKind.min, IntKind.max, IntKind.signed, IntKind.bits] at this
        show -9223372036854775808 ≤ zs.getD i 0 ∧ zs.getD i 0 ≤ 9223372036854775807
        rw [List.getD_eq_getElem?_getD]
        omega
      · have hz' : zs.length = cap := by simpa using hz
        have h0 := hc 0 (by omega)
        have hs : s = none := by
          have e1 : ((⟨b, o, s⟩ : Addr).add 0) = ⟨b, o, s⟩ := rfl
          rw [e1] at h0
          unfold World.cell? at h0
          split at h0
          · cases s with
            | none => rfl
            | some s => simp at h0
          · simp at h0
        subst hs
        have hadd : ∀ i, ((⟨b, o, none⟩ : Addr).add i) = ⟨b, o + i, none⟩ := by
          intro i
          unfold Addr.add
          split <;> simp_all
        refine ⟨b, o, rfl, ?_, fun i hi => by rw [← hadd]; exact hc i (by omega)⟩
        rw [hadd] at h0
        unfold World.cell? at h0
        split at h0
        · rename_i hh; exact (Array.getElem?_eq_some_iff.1 hh).1
        · simp at h0
  obtain ⟨A, n, c, f, hv, r⟩ := key _ _ hf
  refine ⟨A, n, c, f, ?_, r⟩
  obtain ⟨a, l, k, hs⟩ : ∃ a l k, v = .slice a l k := by
    exact okWide_slice ht hval
  subst hs
  have e2 : [Value.slice a l k] = [Value.slice A n c] := hv
  exact (List.cons.inj e2).1
end Go.Proofs.Ytlbdfhbkemikgaa

/- Contracts of CopyBytes, Copy and CopyAll: a term that reads as a finite tree is copied; what was there stays. -/
import Derived.Test.YtniopaimhncmkaaProg
import Derived.WalkKit
import Derived.KernelRfl
import Derived.Lib.Hide
import Derived.Maps.AppendAt
set_option linter.unusedVariables false
set_option linter.unusedSimpArgs false
namespace Go.Proofs.Ytniopaimhncmkaa
open Go.RowKit

def IsSl (v : Value) : Prop := ∃ (A : Option Addr) (l c : Nat), v = .slice A l c

/-- the bytes that a slice holds are there. -/
def BytesAt (w : World) (v : Value) : Prop :=
  ∃ (A : Option Addr) (n c : Nat), v = .slice A n c ∧ (A = none → n = 0 ∧ c = 0) ∧ n ≤ 140737488351232 ∧
    (0 < n → ∃ b o, A = some ⟨b, o, none⟩ ∧ b < w.heap.size ∧ ∀ j, j < n → ∃ x : Int, w.cell? ⟨b, o + j, none⟩ = some (.int .u8 x))

mutual
def TermAt (w : World) : Nat → List Value → Prop
  | 0, _ => False
  | d + 1, cs => ∃ (k n : Int) (s : ByteArray) (I R by_ : Value), cs = [.int .i64 k, .int .i64 n, .string s, I, R, by_] ∧ TermsAt w d I ∧ TermsAt w d R ∧ BytesAt w by_
def TermsAt (w : World) : Nat → Value → Prop
  | 0, v => ∃ (A : Option Addr) (c : Nat), v = .slice A 0 c ∧ (A = none → c = 0)
  | d + 1, v => ∃ (A : Option Addr) (n c : Nat), v = .slice A n c ∧ (A = none → n = 0 ∧ c = 0) ∧ n * 104 ≤ 140737488351232 ∧
    (0 < n → ∃ b o, A = some ⟨b, o, none⟩ ∧ b < w.heap.size ∧ ∀ i, i < n → ∃ cs, TermAt w d cs ∧ ∀ j, j < 6 → w.cell? ⟨b, o + i * 6 + j, none⟩ = cs[j]?)
end

theorem BytesAt.below {w w' : World} {v : Value} (h : BytesAt w v) (hb : Below w.heap.size w w') : BytesAt w' v := by
  obtain ⟨A, n, c, e, hnil, hn, h⟩ := h
  refine ⟨A, n, c, e, hnil, hn, fun hp => ?_⟩
  obtain ⟨b, o, e, hlt, hc⟩ := h hp
  refine ⟨b, o, e, Nat.lt_of_lt_of_le hlt hb.size, fun j hj => ?_⟩
  obtain ⟨x, hx⟩ := hc j hj
  exact ⟨x, (hb.cell (p := ⟨b, _, none⟩) hlt).trans hx⟩

mutual
theorem TermAt.below {w w' : World} (hb : Below w.heap.size w w') : ∀ (d : Nat) (cs : List Value), TermAt w d cs → TermAt w' d cs
  | 0, _, h => by simp [TermAt] at h
  | d + 1, cs, h => by
    simp only [TermAt] at h ⊢
    obtain ⟨k, n, s, I, R, y, e, h1, h2, h3⟩ := h
    exact ⟨k, n, s, I, R, y, e, TermsAt.below hb d I h1, TermsAt.below hb d R h2, h3.below hb⟩
theorem TermsAt.below {w w' : World} (hb : Below w.heap.size w w') : ∀ (d : Nat) (v : Value), TermsAt w d v → TermsAt w' d v
  | 0, _, h => by simpa [TermsAt] using h
  | d + 1, v, h => by
    simp only [TermsAt] at h ⊢
    obtain ⟨A, n, c, e, hnil, hn, h⟩ := h
    refine ⟨A, n, c, e, hnil, hn, fun hp => ?_⟩
    obtain ⟨b, o, e, hlt, hc⟩ := h hp
    refine ⟨b, o, e, Nat.lt_of_lt_of_le hlt hb.size, fun i hi => ?_⟩
    obtain ⟨cs, ht, hcell⟩ := hc i hi
    exact ⟨cs, TermAt.below hb d cs ht, fun j hj => (hb.cell (p := ⟨b, _, none⟩) hlt).trans (hcell j hj)⟩
end

theorem TermsAt.nil (w : World) (d : Nat) (A : Option Addr) (c : Nat) (h : A = none → c = 0) : TermsAt w d (.slice A 0 c) := by
  cases d with
  | zero => simp only [TermsAt]; exact ⟨A, c, rfl, h⟩
  | succ d => simp only [TermsAt]; exact ⟨A, 0, c, rfl, fun e => ⟨rfl, h e⟩, by omega, fun h => by omega⟩

theorem Try.byteInfo : (Try.prog.info? 5).map (fun i => (i.zero, i.size, i.bytes)) = some (some (.int .u8 0), 1, 1) := by kernel_rfl

theorem isSl_own {w : World} {base : Nat} {e : TypeId} {size : Nat} {v : Value} {n : Nat} {xs : List Value} (h : w.ownsRow base e size v n xs) : IsSl v := by
  rcases h.2 with ⟨rfl, _⟩ | ⟨g, cap, cur, rfl, _⟩
  · exact ⟨_, _, _, rfl⟩
  · exact ⟨_, _, _, rfl⟩

/-- a slice is told, and what was there stays. -/
def RetSl (B : Nat) (w : World) (e : Ending) (w' : World) : Prop := ∃ A l c, e = .returned (.slice A l c) ∧ Below B w w'

set_option maxHeartbeats 1000000 in
set_option maxRecDepth 100000 in
theorem copyBytes_any (v : Value) (w : World) (h : BytesAt w v) : Calls Try.prog 20 #[v] w (RetSl w.heap.size w) := by
  obtain ⟨A, n, c, rfl, hnil, hn, h⟩ := h
  obtain ⟨i0, hi, hz0, hz1, hz2⟩ := info_parts Try.byteInfo
  by_cases hp : 0 < n
  · obtain ⟨b, o, rfl, hlt, hc⟩ := h hp
    have hex : ∃ xs : List Value, xs.length = n * 1 ∧ (∀ j u, xs[j]? = some u → w.cell? ((⟨b, o, none⟩ : Addr).add j) = some u) ∧ (∀ u ∈ xs, u.oneCell' = true) := by
      refine ⟨(List.range n).map fun j => (w.cell? ⟨b, o + j, none⟩).getD default, by simp, ?_, ?_⟩
      · intro j u hu
        rw [List.getElem?_map] at hu
        by_cases hj : j < n
        · rw [List.getElem?_range hj] at hu
          obtain ⟨x, hx⟩ := hc j hj
          simp [hx] at hu
          subst hu
          have : (⟨b, o, none⟩ : Addr).add j = ⟨b, o + j, none⟩ := by unfold Addr.add; split <;> simp_all
          rw [this, hx]
        · rw [List.getElem?_eq_none (by simpa using hj)] at hu; simp at hu
      · intro u hu
        rw [List.mem_map] at hu
        obtain ⟨j, hj, rfl⟩ := hu
        obtain ⟨x, hx⟩ := hc j (List.mem_range.1 hj)
        rw [hx]; rfl
    obtain ⟨xs, x1, x2, x3⟩ := hex
    clear hc h
    go_enter Try.func20, Try.ntmps20
    go_wp2_with (first
      | (at_builtin
         refine wpList_append_own _ rfl _ _ 30 rfl w.heap.size 5 i0 (.int .u8 0) 1 1 Try.underlying30 hi hz0 hz1 hz2 rfl (by decide) _ _ _ rfl (World.ownsRow_nil w w.heap.size 5 1) ⟨b, o, none⟩ n c xs rfl x1 x2 x3 ?c3 ?c4 (Nat.le_refl _) ?_
         case c3 => unfold maxLen; omega
         case c4 => omega
         intro v1 w1 hown1 hg1 _))
    go_ret
    obtain ⟨A', l', c', hv⟩ := isSl_own hown1
    subst hv
    exact (⟨A', l', c', rfl, (Below.refl _ _).grown hg1 (Nat.le_refl _) (fun k hk => by cases hk)⟩ : RetSl _ _ _ _)
  · obtain rfl : n = 0 := by omega
    clear h
    cases A with
    | none =>
      obtain rfl : c = 0 := (hnil rfl).2
      clear hnil
      go_enter Try.func20, Try.ntmps20
      go_wp2_with (first
        | (at_builtin
           refine wpList_append_own_none _ rfl _ _ 30 rfl w.heap.size 5 i0 1 Try.underlying30 hi _ _ _ rfl (World.ownsRow_nil w w.heap.size 5 1) rfl ?_))
      go_ret
      exact (⟨none, 0, 0, rfl, Below.refl _ _⟩ : RetSl _ _ _ _)
    | some a =>
      go_enter Try.func20, Try.ntmps20
      go_wp2_with (first
        | (at_builtin
           refine wpList_append_own _ rfl _ _ 30 rfl w.heap.size 5 i0 (.int .u8 0) 1 1 Try.underlying30 hi hz0 hz1 hz2 rfl (by decide) _ _ _ rfl (World.ownsRow_nil w w.heap.size 5 1) a 0 c [] rfl rfl (by simp) (by simp) ?c3 ?c4 (Nat.le_refl _) ?_
           case c3 => unfold maxLen; omega
           case c4 => omega
           intro v1 w1 hown1 hg1 _))
      go_ret
      obtain ⟨A', l', c', hv⟩ := isSl_own hown1
      subst hv
      exact (⟨A', l', c', rfl, (Below.refl _ _).grown hg1 (Nat.le_refl _) (fun k hk => by cases hk)⟩ : RetSl _ _ _ _)
end Go.Proofs.Ytniopaimhncmkaa

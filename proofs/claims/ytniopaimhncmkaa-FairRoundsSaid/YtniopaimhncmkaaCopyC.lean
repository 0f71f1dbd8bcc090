/- The contract of CopyAll, and by induction on a term's depth those of Copy and CopyAll for all terms. -/
import Derived.Test.YtniopaimhncmkaaCopyB
set_option linter.unusedVariables false
set_option linter.unusedSimpArgs false
namespace Go.Proofs.Ytniopaimhncmkaa
open Go.RowKit

theorem Try.termInfo : (Try.prog.info? 32).map (fun i => (i.zero, i.size, i.bytes)) = some (some (.agg #[.int .i64 0, .int .i64 0, .string ⟨#[]⟩, .slice none 0 0, .slice none 0 0, .slice none 0 0]), 6, 104) := by kernel_rfl

def CRel (w : World) (n : Nat) (v3 i4 : Value) (wr : World) : Prop :=
  ∃ (k : Nat) (xs : List Value), k ≤ n ∧ i4 = .int .i64 k ∧ wr.ownsRow w.heap.size 32 6 v3 k xs ∧ Below w.heap.size w wr

theorem isSl3 {w : World} {base : Nat} {e : TypeId} {size : Nat} {v : Value} {n : Nat} {xs : List Value} (h : w.ownsRow base e size v n xs) : ∃ A l c, v = .slice A l c := isSl_own h

theorem below_own {w wr w1 w2 : World} {v : Value} {n : Nat} {xs : List Value} {e : TypeId} {size : Nat} (hb : Below w.heap.size w wr) (hown : wr.ownsRow w.heap.size e size v n xs) (h1 : Below w.heap.size wr w1) (hg : w1.grownBy w2 v.ownBlock) :
    Below w.heap.size w w2 :=
  (hb.trans h1).grown hg (hb.trans h1).size (fun k hk => (hown.lt k hk).1)

theorem own_below {w w1 : World} {B : Nat} {v : Value} {n : Nat} {xs : List Value} {e : TypeId} {size : Nat} (hown : w.ownsRow B e size v n xs) (hb : Below w.heap.size w w1) : w1.ownsRow B e size v n xs := by
  refine ⟨hown.1, ?_⟩
  rcases hown.2 with h | ⟨g, cap, cur, hv, hB, hg, r⟩
  · exact .inl h
  · exact .inr ⟨g, cap, cur, hv, hB, (hb.block g (Array.getElem?_eq_some_iff.1 hg).1).trans hg, r⟩

set_option maxHeartbeats 1000000 in
set_option maxRecDepth 100000 in
theorem copyAll_none (A : Option Addr) (c : Nat) (w : World) : Calls Try.prog 19 #[.slice A 0 c] w (RetSl w.heap.size w) := by
  go_enter Try.func19, Try.ntmps19
  go_wp2
  go_loop [3, 4] (fun v3 i4 => v3 = .slice none 0 0 ∧ i4 = .int .i64 0) (fun _ _ => 0)
  case atStart => exact ⟨rfl, rfl⟩
  case round =>
    obtain ⟨rfl, rfl⟩ := hrel
    go_wp2_with fail
    go_ret
    exact (⟨none, 0, 0, rfl, Below.refl _ _⟩ : RetSl _ _ _ _)

theorem news_at (w : World) (cs : Array Value) (t : TypeId) : ∀ j u, cs.toList[j]? = some u → (w.alloc (.cells cs t)).cell? ((⟨w.heap.size, 0, none⟩ : Addr).add j) = some u := by
  intro j u hu
  have e : (⟨w.heap.size, 0, none⟩ : Addr).add j = ⟨w.heap.size, j, none⟩ := by unfold Addr.add; split <;> simp_all
  rw [e, cell_of_row _ _ j cs t (0, 0) (heap_alloc_new w _), ← hu, Array.getElem?_toList]

theorem six {w : World} {d : Nat} (cs : List Value) (h : TermAt w (d + 1) cs) : ∃ (k n : Int) (s : ByteArray) (A1 A2 A3 : Option Addr) (l1 c1 l2 c2 l3 c3 : Nat), cs = [.int .i64 k, .int .i64 n, .string s, .slice A1 l1 c1, .slice A2 l2 c2, .slice A3 l3 c3] := by
  simp only [TermAt] at h
  obtain ⟨k, n, s, I, R, Y, rfl, hI, hR, hY⟩ := h
  obtain ⟨AI, lI, cI, rfl⟩ := hI.isSl
  obtain ⟨AR, lR, cR, rfl⟩ := hR.isSl
  obtain ⟨AY, lY, cY, rfl⟩ := hY.isSl
  exact ⟨k, n, s, AI, AR, AY, lI, cI, lR, cR, lY, cY, rfl⟩

set_option maxHeartbeats 1000000 in
set_option maxRecDepth 100000 in
theorem copyAll_step (d : Nat) (ih : ∀ cs w, TermAt w (d + 1) cs → Calls Try.prog 17 #[.agg cs.toArray] w (RetTerm w.heap.size w)) (v : Value) (w : World) (h : TermsAt w (d + 2) v) :
    Calls Try.prog 19 #[v] w (RetSl w.heap.size w) := by
  rw [TermsAt] at h
  obtain ⟨A, n, c, rfl, hnil, hn, h⟩ := h
  by_cases hp : 0 < n
  · obtain ⟨b, o, rfl, hlt, hc⟩ := h hp
    obtain ⟨i0, hi, hz0, hz1, hz2⟩ := info_parts Try.termInfo
    clear h hnil
    have IH := Lib.hid ih
    clear ih
    have HI := Lib.hid hi
    have HZ0 := Lib.hid hz0
    have HZ1 := Lib.hid hz1
    have HZ2 := Lib.hid hz2
    clear hi hz0 hz1 hz2
    go_enter Try.func19, Try.ntmps19
    go_wp2
    go_loopw [3, 4] (CRel w n) (fun _ i _ => n - (intOf i).toNat)
    case atStart => exact ⟨0, [], Nat.zero_le _, rfl, World.ownsRow_nil _ _ _ _, Below.refl _ _⟩
    case round =>
      obtain ⟨k, xs, hk, rfl, hown, hbel⟩ := hrel
      by_cases hkn : k < n
      · obtain ⟨cs, ht, hcell⟩ := hc k hkn
        obtain ⟨k0, n1, s2, A3, A4, A5, l3, c3, l4, c4, l5, c5, rfl⟩ := six cs ht
        have ht' := TermAt.below hbel _ _ ht
        have e0 : wr.cell? ⟨b, o + k * 6, none⟩ = some (.int .i64 k0) := (hbel.cell (p := ⟨b, _, none⟩) hlt).trans (hcell 0 (by omega))
        have e1 : wr.cell? ⟨b, o + k * 6 + 1, none⟩ = some (.int .i64 n1) := (hbel.cell (p := ⟨b, _, none⟩) hlt).trans (hcell 1 (by omega))
        have e2 : wr.cell? ⟨b, o + k * 6 + 2, none⟩ = some (.string s2) := (hbel.cell (p := ⟨b, _, none⟩) hlt).trans (hcell 2 (by omega))
        have e3 : wr.cell? ⟨b, o + k * 6 + 3, none⟩ = some (.slice A3 l3 c3) := (hbel.cell (p := ⟨b, _, none⟩) hlt).trans (hcell 3 (by omega))
        have e4 : wr.cell? ⟨b, o + k * 6 + 4, none⟩ = some (.slice A4 l4 c4) := (hbel.cell (p := ⟨b, _, none⟩) hlt).trans (hcell 4 (by omega))
        have e5 : wr.cell? ⟨b, o + k * 6 + 5, none⟩ = some (.slice A5 l5 c5) := (hbel.cell (p := ⟨b, _, none⟩) hlt).trans (hcell 5 (by omega))
        have HT := Lib.hid ht'
        have HOWN := Lib.hid hown
        clear hc hcell ht ht' hown
        go_wp2_with fail
        refine (IH.out _ _ HT.out).mono ?_
        rintro e w1 ⟨k', n', s', A1', A2', A3', l1', c1', l2', c2', l3', c3', rfl, hb1⟩
        have hown1 := own_below HOWN.out hb1
        have hb1' := hb1.mono hbel.size
        go_wp2_with (at_builtin
                     refine wpList_append_own _ rfl _ _ 29 rfl w.heap.size 32 i0 _ 6 104 Try.underlying29 HI.out HZ0.out HZ1.out HZ2.out rfl (by decide) _ _ _ rfl (hown1.alloc _) ⟨w1.heap.size, 0, none⟩ 1 1 [.int .i64 k', .int .i64 n', .string s', .slice A1' l1' c1', .slice A2' l2' c2', .slice A3' l3' c3'] rfl rfl ?c1 ?c2 ?c3 ?c4 ?c5 ?_)
        case c1 => exact news_at w1 _ 32
        case c2 => simp [Value.oneCell']
        case c3 => unfold maxLen; omega
        case c4 => omega
        case c5 => have := hb1.size; have := hbel.size; simp; omega
        intro v2 w2 hown2 hg2 _
        have hb2 := below_own (w1 := w1.alloc _) hbel HOWN.out (hb1'.alloc (hbel.trans hb1').size _) hg2
        clear hg2 hb1 hb1' hown1
        go_wp2_with fail
        exact ⟨⟨k + 1, _, hkn, by go_num, hown2, hb2⟩, by simp [intOf]; omega⟩
      · go_wp2_with fail
        go_ret
        obtain ⟨A', l', c', rfl⟩ := isSl3 hown
        exact (⟨A', l', c', rfl, hbel⟩ : RetSl _ _ _ _)
  · obtain rfl : n = 0 := by omega
    exact copyAll_none A c w

theorem copies (d : Nat) : (∀ cs w, TermAt w d cs → Calls Try.prog 17 #[.agg cs.toArray] w (RetTerm w.heap.size w)) ∧ (∀ v w, TermsAt w d v → Calls Try.prog 19 #[v] w (RetSl w.heap.size w)) := by
  induction d with
  | zero =>
    refine ⟨fun cs w h => by simp [TermAt] at h, fun v w h => ?_⟩
    rw [TermsAt] at h
    obtain ⟨A, c, rfl, _⟩ := h
    exact copyAll_none A c w
  | succ d ih =>
    refine ⟨fun cs w h => copy_step d ih.2 cs w h, fun v w h => ?_⟩
    cases d with
    | zero =>
      rw [TermsAt] at h
      obtain ⟨A, n, c, rfl, _, _, h⟩ := h
      by_cases hp : 0 < n
      · obtain ⟨b, o, _, _, hc⟩ := h hp
        obtain ⟨cs, ht, _⟩ := hc 0 hp
        simp [TermAt] at ht
      · obtain rfl : n = 0 := by omega
        exact copyAll_none A c w
    | succ d => exact copyAll_step d ih.1 v w h
end Go.Proofs.Ytniopaimhncmkaa

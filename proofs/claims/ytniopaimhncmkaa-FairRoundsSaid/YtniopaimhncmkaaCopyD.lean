/- The contract of CopyScript: the entries are copied, as far as fairness looks at them. -/
import Derived.Test.YtniopaimhncmkaaCopyC
import Derived.Test.YtniopaimhncmkaaWalkD
import Derived.Deep.CutBlock
set_option linter.unusedVariables false
set_option linter.unusedSimpArgs false
namespace Go.Proofs.Ytniopaimhncmkaa
open Go.RowKit Go.Proofs.Ytniopaimhncmkaa.Plain

theorem Try.entryInfo : (Try.prog.info? 34).map (fun i => (i.zero, i.size, i.bytes)) =
    some (some (.agg #[.int .i64 0, .int .i64 0, .int .i64 0, .string ⟨#[]⟩, .int .i64 0, .int .i64 0, .string ⟨#[]⟩, .slice none 0 0, .slice none 0 0, .slice none 0 0]), 10, 144) := by kernel_rfl

/-- an entry with its term, whole. -/
def EntT (w : World) (b o : Nat) (e : Ent) : Prop :=
  ∃ (s3 : ByteArray) (cs : List Value) (d : Nat), w.cell? ⟨b, o, none⟩ = some (.int .i64 e.kind) ∧ w.cell? ⟨b, o + 1, none⟩ = some (.int .i64 e.a) ∧ w.cell? ⟨b, o + 2, none⟩ = some (.int .i64 e.b) ∧
    w.cell? ⟨b, o + 3, none⟩ = some (.string s3) ∧ TermAt w d cs ∧ ∀ j, j < 6 → w.cell? ⟨b, o + 4 + j, none⟩ = cs[j]?

def ScriptT (w : World) (A : Option Addr) (n : Nat) (f : Nat → Ent) : Prop :=
  n * 144 ≤ 140737488351232 ∧ (∀ i, -9223372036854775808 ≤ (f i).a ∧ (f i).a ≤ 9223372036854775807) ∧
  (0 < n → ∃ b o, A = some ⟨b, o, none⟩ ∧ b < w.heap.size ∧ ∀ i, i < n → EntT w b (o + i * 10) (f i))

theorem EntT.below {w w' : World} {b o : Nat} {e : Ent} (h : EntT w b o e) (hlt : b < w.heap.size) (hb : Below w.heap.size w w') : EntT w' b o e := by
  obtain ⟨s3, cs, d, h0, h1, h2, h3, ht, hc⟩ := h
  exact ⟨s3, cs, d, (hb.cell (p := ⟨b, _, none⟩) hlt).trans h0, (hb.cell (p := ⟨b, _, none⟩) hlt).trans h1, (hb.cell (p := ⟨b, _, none⟩) hlt).trans h2, (hb.cell (p := ⟨b, _, none⟩) hlt).trans h3,
    TermAt.below hb _ _ ht, fun j hj => (hb.cell (p := ⟨b, _, none⟩) hlt).trans (hc j hj)⟩

theorem ScriptT.below {w w' : World} {A : Option Addr} {n : Nat} {f : Nat → Ent} (h : ScriptT w A n f) (hb : Below w.heap.size w w') : ScriptT w' A n f := by
  refine ⟨h.1, h.2.1, fun hp => ?_⟩
  obtain ⟨b, o, e, hlt, hc⟩ := h.2.2 hp
  exact ⟨b, o, e, Nat.lt_of_lt_of_le hlt hb.size, fun i hi => (hc i hi).below hlt hb⟩

/-- entry 'i' of a list of cells. -/
def EntL (xs : List Value) (i : Nat) (e : Ent) : Prop :=
  ∃ (s3 s6 : ByteArray) (k4 n5 : Int) (A7 A8 A9 : Option Addr) (l7 c7 l8 c8 l9 c9 : Nat),
    xs[i * 10]? = some (.int .i64 e.kind) ∧ xs[i * 10 + 1]? = some (.int .i64 e.a) ∧ xs[i * 10 + 2]? = some (.int .i64 e.b) ∧
    xs[i * 10 + 3]? = some (.string s3) ∧ xs[i * 10 + 4]? = some (.int .i64 k4) ∧ xs[i * 10 + 5]? = some (.int .i64 n5) ∧
    xs[i * 10 + 6]? = some (.string s6) ∧ xs[i * 10 + 7]? = some (.slice A7 l7 c7) ∧ xs[i * 10 + 8]? = some (.slice A8 l8 c8) ∧
    xs[i * 10 + 9]? = some (.slice A9 l9 c9)

theorem EntL.more {xs ys : List Value} {i : Nat} {e : Ent} (h : EntL xs i e) : EntL (xs ++ ys) i e := by
  obtain ⟨s3, s6, k4, n5, A7, A8, A9, l7, c7, l8, c8, l9, c9, h0, h1, h2, h3, h4, h5, h6, h7, h8, h9⟩ := h
  have m : ∀ {j : Nat} {u : Value}, xs[j]? = some u → (xs ++ ys)[j]? = some u := fun {j u} h => by
    rw [List.getElem?_append_left (List.getElem?_eq_some_iff.1 h).1]; exact h
  exact ⟨s3, s6, k4, n5, A7, A8, A9, l7, c7, l8, c8, l9, c9, m h0, m h1, m h2, m h3, m h4, m h5, m h6, m h7, m h8, m h9⟩

theorem EntL.new {xs : List Value} {k : Nat} (hl : xs.length = k * 10) (e : Ent) (s3 s6 : ByteArray) (k4 n5 : Int) (A7 A8 A9 : Option Addr) (l7 c7 l8 c8 l9 c9 : Nat) :
    EntL (xs ++ [.int .i64 e.kind, .int .i64 e.a, .int .i64 e.b, .string s3, .int .i64 k4, .int .i64 n5, .string s6, .slice A7 l7 c7, .slice A8 l8 c8, .slice A9 l9 c9]) k e := by
  have m : ∀ (ys : List Value) (j : Nat), (xs ++ ys)[k * 10 + j]? = ys[j]? := fun ys j => by
    rw [List.getElem?_append_right (by omega)]; congr 1; omega
  exact ⟨s3, s6, k4, n5, A7, A8, A9, l7, c7, l8, c8, l9, c9, m _ 0, m _ 1, m _ 2, m _ 3, m _ 4, m _ 5, m _ 6, m _ 7, m _ 8, m _ 9⟩

theorem scriptAt_own {w : World} {base n : Nat} {v : Value} {xs : List Value} {f : Nat → Ent} (h : w.ownsRow base 34 10 v n xs) (hx : ∀ i, i < n → EntL xs i (f i))
    (hr : ∀ i, -9223372036854775808 ≤ (f i).a ∧ (f i).a ≤ 9223372036854775807) : ∃ A c, v = .slice A n c ∧ n ≤ c ∧ ScriptAt w A n f := by
  have hh := h
  rcases h.2 with ⟨rfl, rfl⟩ | ⟨g, cap, cur, rfl, _, hg, hnc, _⟩
  · exact ⟨none, 0, rfl, Nat.le_refl _, fun h => by omega⟩
  · refine ⟨_, cap, rfl, hnc, fun _ => ⟨g, 0, rfl, (Array.getElem?_eq_some_iff.1 hg).1, fun i hi => ?_, hr⟩⟩
    obtain ⟨s3, s6, k4, n5, A7, A8, A9, l7, c7, l8, c8, l9, c9, h0, h1, h2, h3, h4, h5, h6, h7, h8, h9⟩ := hx i hi
    have m : ∀ {j : Nat} {u : Value}, xs[j]? = some u → w.cell? ⟨g, 0 + j, none⟩ = some u := fun {j u} hj => by
      have hlt : j < n * 10 := by have := (List.getElem?_eq_some_iff.1 hj).1; rw [hh.1] at this; exact this
      rw [Nat.zero_add, hh.cellAt j hlt, hj]
    exact ⟨s3, s6, k4, n5, A7, A8, A9, l7, c7, l8, c8, l9, c9, m h0, m h1, m h2, m h3, m h4, m h5, m h6, m h7, m h8, m h9⟩

theorem putSix (w : World) (g : Nat) (v0 v1 v2 v3 v4 v5 v6 v7 v8 v9 u4 u5 u6 u7 u8 u9 : Value) (h : Row w g 34 #[v0, v1, v2, v3, v4, v5, v6, v7, v8, v9]) :
    Row ((((((w.setCell ⟨g, 4, none⟩ u4).setCell ⟨g, 5, none⟩ u5).setCell ⟨g, 6, none⟩ u6).setCell ⟨g, 7, none⟩ u7).setCell ⟨g, 8, none⟩ u8).setCell ⟨g, 9, none⟩ u9) g 34 #[v0, v1, v2, v3, u4, u5, u6, u7, u8, u9] := by
  have := (((((h.put 4 u4).put 5 u5).put 6 u6).put 7 u7).put 8 u8).put 9 u9
  simpa using this

def SRel (w : World) (n : Nat) (f : Nat → Ent) (v3 i4 : Value) (wr : World) : Prop :=
  ∃ (k : Nat) (xs : List Value), k ≤ n ∧ i4 = .int .i64 k ∧ wr.ownsRow w.heap.size 34 10 v3 k xs ∧ (∀ i, i < k → EntL xs i (f i)) ∧ Below w.heap.size w wr

def RetScript (n : Nat) (f : Nat → Ent) (w : World) (e : Ending) (w' : World) : Prop :=
  ∃ A c, e = .returned (.slice A n c) ∧ n ≤ c ∧ ScriptAt w' A n f ∧ Below w.heap.size w w'

set_option maxHeartbeats 1000000 in
set_option maxRecDepth 100000 in
theorem copyScript_any (A : Option Addr) (n c : Nat) (f : Nat → Ent) (w : World) (h : ScriptT w A n f) : Calls Try.prog 13 #[.slice A n c] w (RetScript n f w) := by
  obtain ⟨hn, hr, h⟩ := h
  obtain ⟨i0, hi, hz0, hz1, hz2⟩ := info_parts Try.entryInfo
  have HI := Lib.hid hi
  have HZ0 := Lib.hid hz0
  have HZ1 := Lib.hid hz1
  have HZ2 := Lib.hid hz2
  have HR := Lib.hid hr
  have HC := Lib.hid h
  clear hi hz0 hz1 hz2 hr h
  go_enter Try.func13, Try.ntmps13
  go_wp2
  go_loopw [3, 4] (SRel w n f) (fun _ i _ => n - (intOf i).toNat)
  case atStart => exact ⟨0, [], Nat.zero_le _, rfl, World.ownsRow_nil _ _ _ _, fun i hi => by omega, Below.refl _ _⟩
  case round =>
    obtain ⟨k, xs, hk, rfl, hown, hxs, hbel⟩ := hrel
    by_cases hkn : k < n
    · obtain ⟨b, o, rfl, hlt, hc⟩ := HC.out (by omega)
      obtain ⟨s3, cs, d, h0, h1, h2, h3, ht, hcell⟩ := (hc k hkn).below hlt hbel
      obtain ⟨d', rfl⟩ : ∃ d', d = d' + 1 := by
        cases d with
        | zero => simp [TermAt] at ht
        | succ d' => exact ⟨d', rfl⟩
      obtain ⟨k4, n5, s6, A7, A8, A9, l7, c7, l8, c8, l9, c9, rfl⟩ := six cs ht
      have h4 : wr.cell? ⟨b, o + k * 10 + 4, none⟩ = some (.int .i64 k4) := hcell 0 (by omega)
      have h5 : wr.cell? ⟨b, o + k * 10 + 5, none⟩ = some (.int .i64 n5) := hcell 1 (by omega)
      have h6 : wr.cell? ⟨b, o + k * 10 + 6, none⟩ = some (.string s6) := hcell 2 (by omega)
      have h7 : wr.cell? ⟨b, o + k * 10 + 7, none⟩ = some (.slice A7 l7 c7) := hcell 3 (by omega)
      have h8 : wr.cell? ⟨b, o + k * 10 + 8, none⟩ = some (.slice A8 l8 c8) := hcell 4 (by omega)
      have h9 : wr.cell? ⟨b, o + k * 10 + 9, none⟩ = some (.slice A9 l9 c9) := hcell 5 (by omega)
      have HT := Lib.hid ht
      have HOWN := Lib.hid hown
      have HXS := Lib.hid hxs
      clear hc hcell ht hown hxs
      generalize hf : f k = e at *
      have HF := Lib.hid hf
      clear hf
      go_wp2_with fail
      have B0 := (Below.refl wr.heap.size wr).alloc (Nat.le_refl _) (.cells #[.int .i64 e.kind, .int .i64 e.a, .int .i64 e.b, .string s3, .int .i64 k4, .int .i64 n5, .string s6, .slice A7 l7 c7, .slice A8 l8 c8, .slice A9 l9 c9] 34)
      have R0 := Row.new wr 34 #[.int .i64 e.kind, .int .i64 e.a, .int .i64 e.b, .string s3, .int .i64 k4, .int .i64 n5, .string s6, .slice A7 l7 c7, .slice A8 l8 c8, .slice A9 l9 c9]
      refine ((copies (d' + 1)).1 _ _ (TermAt.below B0 _ _ HT.out)).mono ?_
      rintro e' w1 ⟨k4', n5', s6', A7', A8', A9', l7', c7', l8', c8', l9', c9', rfl, hb1⟩
      have R1 := R0.below hb1 R0.lt
      have B1 := B0.trans (hb1.mono (by simp))
      clear B0 R0 hb1
      have q4 : w1.cell? ⟨wr.heap.size, 4, none⟩ = some (.int .i64 k4) := R1.cell 4
      have q5 : w1.cell? ⟨wr.heap.size, 5, none⟩ = some (.int .i64 n5) := R1.cell 5
      have q6 : w1.cell? ⟨wr.heap.size, 6, none⟩ = some (.string s6) := R1.cell 6
      have q7 : w1.cell? ⟨wr.heap.size, 7, none⟩ = some (.slice A7 l7 c7) := R1.cell 7
      have q8 : w1.cell? ⟨wr.heap.size, 8, none⟩ = some (.slice A8 l8 c8) := R1.cell 8
      have q9 : w1.cell? ⟨wr.heap.size, 9, none⟩ = some (.slice A9 l9 c9) := R1.cell 9
      have qf : ∀ o, w1.frozen? ⟨wr.heap.size, o, none⟩ = false := R1.free
      go_upto_region 7 with (fail)
      have R2 := putSix _ _ _ _ _ _ _ _ _ _ _ _ (.int .i64 k4') (.int .i64 n5') (.string s6') (.slice A7' l7' c7') (.slice A8' l8' c8') (.slice A9' l9' c9') R1
      have B2 : Below wr.heap.size wr _ := (((((B1.setCell (p := ⟨wr.heap.size, 4, none⟩) (Nat.le_refl _) (.int .i64 k4')).setCell (p := ⟨wr.heap.size, 5, none⟩) (Nat.le_refl _) (.int .i64 n5')).setCell (p := ⟨wr.heap.size, 6, none⟩) (Nat.le_refl _) (.string s6')).setCell
        (p := ⟨wr.heap.size, 7, none⟩) (Nat.le_refl _) (.slice A7' l7' c7')).setCell (p := ⟨wr.heap.size, 8, none⟩) (Nat.le_refl _) (.slice A8' l8' c8')).setCell (p := ⟨wr.heap.size, 9, none⟩) (Nat.le_refl _) (.slice A9' l9' c9')
      obtain ⟨W2, hW2⟩ : ∃ W2 : World, (((((w1.setCell ⟨wr.heap.size, 4, none⟩ (.int .i64 k4')).setCell ⟨wr.heap.size, 5, none⟩ (.int .i64 n5')).setCell ⟨wr.heap.size, 6, none⟩ (.string s6')).setCell
        ⟨wr.heap.size, 7, none⟩ (.slice A7' l7' c7')).setCell ⟨wr.heap.size, 8, none⟩ (.slice A8' l8' c8')).setCell ⟨wr.heap.size, 9, none⟩ (.slice A9' l9' c9') = W2 := ⟨_, rfl⟩
      rw [hW2] at R2 B2 ⊢
      clear hW2 q4 q5 q6 q7 q8 q9 qf R1 B1
      have q0 : W2.cell? ⟨wr.heap.size, 0, none⟩ = some (.int .i64 e.kind) := R2.cell 0
      have q1 : W2.cell? ⟨wr.heap.size, 1, none⟩ = some (.int .i64 e.a) := R2.cell 1
      have q2 : W2.cell? ⟨wr.heap.size, 2, none⟩ = some (.int .i64 e.b) := R2.cell 2
      have q3 : W2.cell? ⟨wr.heap.size, 3, none⟩ = some (.string s3) := R2.cell 3
      have q4 : W2.cell? ⟨wr.heap.size, 4, none⟩ = some (.int .i64 k4') := R2.cell 4
      have q5 : W2.cell? ⟨wr.heap.size, 5, none⟩ = some (.int .i64 n5') := R2.cell 5
      have q6 : W2.cell? ⟨wr.heap.size, 6, none⟩ = some (.string s6') := R2.cell 6
      have q7 : W2.cell? ⟨wr.heap.size, 7, none⟩ = some (.slice A7' l7' c7') := R2.cell 7
      have q8 : W2.cell? ⟨wr.heap.size, 8, none⟩ = some (.slice A8' l8' c8') := R2.cell 8
      have q9 : W2.cell? ⟨wr.heap.size, 9, none⟩ = some (.slice A9' l9' c9') := R2.cell 9
      have hown1 := own_below HOWN.out B2
      have hb2' := B2.mono hbel.size
      go_wp2_with (at_builtin
                   refine wpList_append_own _ rfl _ _ 25 rfl w.heap.size 34 i0 _ 10 144 Try.underlying25 HI.out HZ0.out HZ1.out HZ2.out rfl (by decide) _ _ _ rfl (hown1.alloc _) ⟨W2.heap.size, 0, none⟩ 1 1 [.int .i64 e.kind, .int .i64 e.a, .int .i64 e.b, .string s3, .int .i64 k4', .int .i64 n5', .string s6', .slice A7' l7' c7', .slice A8' l8' c8', .slice A9' l9' c9'] rfl rfl ?c1 ?c2 ?c3 ?c4 ?c5 ?_)
      case c1 => exact news_at W2 _ 34
      case c2 => simp [Value.oneCell']
      case c3 => unfold maxLen; omega
      case c4 => omega
      case c5 => have := B2.size; have := hbel.size; simp; omega
      intro v3 w3 hown3 hg3 _
      have hb3 := below_own (w1 := W2.alloc _) hbel HOWN.out (hb2'.alloc (hbel.trans hb2').size _) hg3
      clear hg3 B2 hb2' hown1
      go_wp2_with fail
      refine ⟨⟨k + 1, _, hkn, by go_num, hown3, fun i hi => ?_, hb3⟩, by simp [intOf]; omega⟩
      by_cases hik : i < k
      · exact (HXS.out i hik).more
      · obtain rfl : i = k := by omega
        rw [HF.out]
        exact EntL.new HOWN.out.1 e s3 s6' k4' n5' A7' A8' A9' l7' c7' l8' c8' l9' c9'
    · go_wp2_with fail
      go_ret
      obtain rfl : k = n := by omega
      obtain ⟨A', c', rfl, hc', hs'⟩ := scriptAt_own hown hxs HR.out
      exact (⟨A', c', rfl, hc', hs', hbel⟩ : RetScript _ _ _ _ _)
end Go.Proofs.Ytniopaimhncmkaa

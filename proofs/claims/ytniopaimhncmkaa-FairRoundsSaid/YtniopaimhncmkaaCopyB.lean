/- Contracts of Copy and CopyAll: a term that reads as a finite tree is copied; what was there stays. -/
import Derived.Test.YtniopaimhncmkaaCopyA
set_option linter.unusedVariables false
set_option linter.unusedSimpArgs false
namespace Go.Proofs.Ytniopaimhncmkaa
open Go.RowKit

/-- a term is told, and what was there stays. -/
def RetTerm (B : Nat) (w : World) (e : Ending) (w' : World) : Prop :=
  ∃ (k n : Int) (s : ByteArray) (A1 A2 A3 : Option Addr) (l1 c1 l2 c2 l3 c3 : Nat), e = .returned (.agg #[.int .i64 k, .int .i64 n, .string s, .slice A1 l1 c1, .slice A2 l2 c2, .slice A3 l3 c3]) ∧ Below B w w'

/-- block 'g' holds just the cells 'cs'. -/
def Row (w : World) (g : Nat) (t : TypeId) (cs : Array Value) : Prop := w.heap[g]? = some (.cells cs t (0, 0))

section
variable {w w' : World} {g : Nat} {t : TypeId} {cs : Array Value}
theorem Row.lt (h : Row w g t cs) : g < w.heap.size := (Array.getElem?_eq_some_iff.1 h).1
theorem Row.cell (h : Row w g t cs) (i : Nat) : w.cell? ⟨g, i, none⟩ = cs[i]? := cell_of_row w g i cs t (0, 0) h
theorem Row.free (h : Row w g t cs) (i : Nat) : w.frozen? ⟨g, i, none⟩ = false := by
  unfold Row at h
  simp [World.frozen?, h]
theorem Row.new (w : World) (t : TypeId) (cs : Array Value) : Row (w.alloc (.cells cs t)) w.heap.size t cs := heap_alloc_new w _
theorem Row.alloc (h : Row w g t cs) (o : Obj) : Row (w.alloc o) g t cs := (Below.heap_alloc w o g h.lt).trans h
theorem Row.put (h : Row w g t cs) (i : Nat) (u : Value) : Row (w.setCell ⟨g, i, none⟩ u) g t (cs.setIfInBounds i u) := by
  unfold Row at h ⊢
  simp [World.setCell, Array.getElem?_modify, h]
theorem Row.below {B : Nat} (h : Row w g t cs) (hb : Below B w w') (hg : g < B) : Row w' g t cs := (hb.block g hg).trans h
theorem Row.far (h : Row w g t cs) {p : Addr} (hp : g ≠ p.block) (u : Value) : Row (w.setCell p u) g t cs := (Below.heap_setCell w p u g hp).trans h
end

theorem bcell {W w1 : World} (hb : Below W.heap.size W w1) : (∀ b o, b < W.heap.size → w1.cell? ⟨b, o, none⟩ = W.cell? ⟨b, o, none⟩) ∧ (∀ b o, b < W.heap.size → w1.frozen? ⟨b, o, none⟩ = W.frozen? ⟨b, o, none⟩) :=
  ⟨fun b o h => hb.cell (p := ⟨b, o, none⟩) h, fun b o h => hb.frozen (p := ⟨b, o, none⟩) h⟩

theorem TermsAt.isSl {w : World} {d : Nat} {v : Value} (h : TermsAt w d v) : IsSl v := by
  cases d with
  | zero => simp only [TermsAt] at h; obtain ⟨A, c, rfl, _⟩ := h; exact ⟨_, _, _, rfl⟩
  | succ d => simp only [TermsAt] at h; obtain ⟨A, n, c, rfl, _⟩ := h; exact ⟨_, _, _, rfl⟩

theorem BytesAt.isSl {w : World} {v : Value} (h : BytesAt w v) : IsSl v := by
  obtain ⟨A, n, c, rfl, _⟩ := h; exact ⟨_, _, _, rfl⟩

set_option maxHeartbeats 1000000 in
set_option maxRecDepth 100000 in
theorem copy_step (d : Nat) (ih : ∀ v w, TermsAt w d v → Calls Try.prog 19 #[v] w (RetSl w.heap.size w)) (cs : List Value) (w : World) (h : TermAt w (d + 1) cs) :
    Calls Try.prog 17 #[.agg cs.toArray] w (RetTerm w.heap.size w) := by
  simp only [TermAt] at h
  obtain ⟨k, n, s, I, R, Y, rfl, hI, hR, hY⟩ := h
  obtain ⟨AI, lI, cI, rfl⟩ := hI.isSl
  obtain ⟨AR, lR, cR, rfl⟩ := hR.isSl
  obtain ⟨AY, lY, cY, rfl⟩ := hY.isSl
  have HI := Lib.hid hI
  have HR := Lib.hid hR
  have HY := Lib.hid hY
  have IH := Lib.hid ih
  clear hI hR hY ih
  go_enter Try.func17, Try.ntmps17
  go_wp2_with fail
  have B0 : Below w.heap.size w ((w.alloc (.cells #[.int .i64 k, .int .i64 n, .string s, .slice AI lI cI, .slice AR lR cR, .slice AY lY cY] 32)).alloc
      (.cells #[.int .i64 0, .int .i64 0, .string { data := #[] }, .slice none 0 0, .slice none 0 0, .slice none 0 0] 32)) :=
    ((Below.refl _ _).alloc (Nat.le_refl _) _).alloc (by simp) _
  have R0 := (Row.new w 32 #[.int .i64 k, .int .i64 n, .string s, .slice AI lI cI, .slice AR lR cR, .slice AY lY cY]).alloc
    (.cells #[.int .i64 0, .int .i64 0, .string { data := #[] }, .slice none 0 0, .slice none 0 0, .slice none 0 0] 32)
  have S0 := Row.new (w.alloc (.cells #[.int .i64 k, .int .i64 n, .string s, .slice AI lI cI, .slice AR lR cR, .slice AY lY cY] 32)) 32
    #[.int .i64 0, .int .i64 0, .string { data := #[] }, .slice none 0 0, .slice none 0 0, .slice none 0 0]
  rw [show (w.alloc (.cells #[.int .i64 k, .int .i64 n, .string s, .slice AI lI cI, .slice AR lR cR, .slice AY lY cY] 32)).heap.size = w.heap.size + 1 by simp] at S0
  refine (IH.out _ _ (TermsAt.below B0 _ _ HI.out)).mono ?_
  rintro e w1 ⟨A1, l1, c1, rfl, hb1⟩
  have R1 := R0.below hb1 R0.lt
  have S1 := S0.below hb1 S0.lt
  have B1 := B0.trans (hb1.mono (by simp; omega))
  clear B0 hb1 R0 S0
  have k1 : w1.cell? ⟨w.heap.size, 3, none⟩ = some (.slice AI lI cI) := R1.cell 3
  have k2 : w1.cell? ⟨w.heap.size, 4, none⟩ = some (.slice AR lR cR) := R1.cell 4
  have k3 := R1.free 3
  go_wp2_with fail
  have B1' := B1.setCell (p := ⟨w.heap.size, 3, none⟩) (Nat.le_refl _) (.slice A1 l1 c1)
  have R1' := R1.put 3 (.slice A1 l1 c1)
  have S1' := S1.far (p := ⟨w.heap.size, 3, none⟩) (by simp) (.slice A1 l1 c1)
  refine (IH.out _ _ (TermsAt.below B1' _ _ HR.out)).mono ?_
  rintro e w2 ⟨A2, l2, c2, rfl, hb2⟩
  have R2 := R1'.below hb2 R1'.lt
  have S2 := S1'.below hb2 S1'.lt
  have B2 := B1'.trans (hb2.mono (by have := R1.lt; simp; omega))
  clear B1 B1' hb2 k1 k2 k3 R1 S1 R1' S1'
  have k1 : w2.cell? ⟨w.heap.size, 4, none⟩ = some (.slice AR lR cR) := R2.cell 4
  have k2 : w2.cell? ⟨w.heap.size, 5, none⟩ = some (.slice AY lY cY) := R2.cell 5
  have k3 := R2.free 4
  go_wp2_with fail
  have B2' := B2.setCell (p := ⟨w.heap.size, 4, none⟩) (Nat.le_refl _) (.slice A2 l2 c2)
  have R2' := R2.put 4 (.slice A2 l2 c2)
  have S2' := S2.far (p := ⟨w.heap.size, 4, none⟩) (by simp) (.slice A2 l2 c2)
  refine (copyBytes_any _ _ (HY.out.below B2')).mono ?_
  rintro e w3 ⟨A3, l3, c3, rfl, hb3⟩
  have R3 := R2'.below hb3 R2'.lt
  have S3 := S2'.below hb3 S2'.lt
  have B3 := B2'.trans (hb3.mono (by have := R2.lt; simp; omega))
  clear B2 B2' hb3 k1 k2 k3 R2 S2 R2' S2'
  have k1 : w3.cell? ⟨w.heap.size, 5, none⟩ = some (.slice AY lY cY) := R3.cell 5
  have k3 := R3.free 5
  have q0 : w3.cell? ⟨w.heap.size, 0, none⟩ = some (.int .i64 k) := R3.cell 0
  have q1 : w3.cell? ⟨w.heap.size, 1, none⟩ = some (.int .i64 n) := R3.cell 1
  have q2 : w3.cell? ⟨w.heap.size, 2, none⟩ = some (.string s) := R3.cell 2
  have q3 : w3.cell? ⟨w.heap.size, 3, none⟩ = some (.slice A1 l1 c1) := R3.cell 3
  have q4 : w3.cell? ⟨w.heap.size, 4, none⟩ = some (.slice A2 l2 c2) := R3.cell 4
  have p0 : w3.cell? ⟨w.heap.size + 1, 0, none⟩ = some (.int .i64 0) := S3.cell 0
  have p1 : w3.cell? ⟨w.heap.size + 1, 1, none⟩ = some (.int .i64 0) := S3.cell 1
  have p2 : w3.cell? ⟨w.heap.size + 1, 2, none⟩ = some (.string { data := #[] }) := S3.cell 2
  have p3 : w3.cell? ⟨w.heap.size + 1, 3, none⟩ = some (.slice none 0 0) := S3.cell 3
  have p4 : w3.cell? ⟨w.heap.size + 1, 4, none⟩ = some (.slice none 0 0) := S3.cell 4
  have p5 : w3.cell? ⟨w.heap.size + 1, 5, none⟩ = some (.slice none 0 0) := S3.cell 5
  have pf : ∀ o, w3.frozen? ⟨w.heap.size + 1, o, none⟩ = false := S3.free
  go_wp2_with fail
  refine bodyPost_ret (v := .agg #[.int .i64 k, .int .i64 n, .string s, .slice A1 l1 c1, .slice A2 l2 c2, .slice A3 l3 c3]) (by simp [results, Try.results17, go_sem, p0, p1, p2, p3, p4, p5]) rfl ?_
  exact ⟨k, n, s, A1, A2, A3, l1, c1, l2, c2, l3, c3, rfl, ((((((B3.setCell (p := ⟨w.heap.size, 5, none⟩) (Nat.le_refl _) _).setCell (p := ⟨w.heap.size + 1, 0, none⟩) (by simp) _).setCell (p := ⟨w.heap.size + 1, 1, none⟩) (by simp) _).setCell
    (p := ⟨w.heap.size + 1, 2, none⟩) (by simp) _).setCell (p := ⟨w.heap.size + 1, 3, none⟩) (by simp) _).setCell (p := ⟨w.heap.size + 1, 4, none⟩) (by simp) _).setCell (p := ⟨w.heap.size + 1, 5, none⟩) (by simp) _⟩
end Go.Proofs.Ytniopaimhncmkaa

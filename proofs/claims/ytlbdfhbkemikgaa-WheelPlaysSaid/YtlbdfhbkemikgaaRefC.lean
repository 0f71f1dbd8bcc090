/- The document's wheel: Cancel, Start, ids. -/
import Derived.Test.YtlbdfhbkemikgaaRefB
import Derived.StillTailTactics
import Derived.Deep.QuietTactic
import Derived.Deep.RegionLaw
import Derived.BigQuiet
set_option linter.unusedVariables false
set_option linter.unusedSimpArgs false
namespace Go.Proofs.Ytlbdfhbkemikgaa
open Go.RowKit Plain

theorem Try.tInfo : (Try.prog.info? 57).map (fun i => (i.zero, i.size, i.bytes)) = some (some (.agg #[.int .i64 0, .int .i64 0, .int .i64 0]), 3, 24) := by kernel_rfl

/-- what a call of the document's wheel leaves. -/
def RetR (w : World) (b : Nat) (v : Value) (x : Value) (M now next : Nat) (L : List Tm) (e : Ending) (w' : World) : Prop :=
  e = .returned x ∧ ∃ v', RW w' b v' M now next L ∧ Keep (footR b v) w w' ∧ ∀ g, v'.ownBlock = some g → v.ownBlock = some g ∨ w.heap.size ≤ g

theorem undrew {w w' : World} {r : Option Nat} (h : w.drew.grownBy w' r) : w.grownBy w' r := ⟨h.os, h.tape, h.output, h.size, h.block⟩

/-- the row is another one. -/
theorem RW.put {w w' : World} {b : Nat} {v v' : Value} {M now next : Nat} {L L' : List Tm} (h : RW w b v M now next L) (hl : LT w' v' L') (hg : w.grownBy w' v.ownBlock) (ho : ∀ g, v'.ownBlock = some g → v.ownBlock = some g ∨ w.heap.size ≤ g) :
    RW (w'.setCell ⟨b, 3, none⟩ v') b v' M now next L' ∧ Keep (footR b v) w (w'.setCell ⟨b, 3, none⟩ v') ∧ ∀ g, v'.ownBlock = some g → v.ownBlock = some g ∨ w.heap.size ≤ g := by
  have hb : w'.heap[b]? = w.heap[b]? := hg.block b h.row.lt (fun e => h.ne e.symm rfl)
  have hr : Row w' b 62 _ := hb.trans h.row
  refine ⟨⟨?_, ?_⟩, ?_, ho⟩
  · have := hr.put 3 v'
    simpa using this
  · refine hl.of_block (fun g hg' => Below.heap_setCell w' _ v' g ?_)
    show g ≠ b
    rcases ho g hg' with h' | h'
    · exact h.ne h'
    · have := h.row.lt; omega
  · exact ((Keep.refl _ w).grown hg (fun k hk _ => .inr hk)).setCell (fun _ => .inl rfl) v'

theorem take_drop_filter {L : List Tm} (hi : (ids L).Pairwise (· < ·)) {j : Nat} {t : Tm} (ht : L[j]? = some t) : L.take j ++ L.drop (j + 1) = L.filter (fun u => decide (u.id ≠ t.id)) := by
  have hp : L.Pairwise (fun s t => s.id < t.id) := List.pairwise_map.1 hi
  obtain ⟨hj, rfl⟩ := List.getElem?_eq_some_iff.1 ht
  have e : L = L.take j ++ (L[j] :: L.drop (j + 1)) := by rw [← List.drop_eq_getElem_cons hj, List.take_append_drop]
  rw [e] at hp
  obtain ⟨p1, p2, p3⟩ := List.pairwise_append.1 hp
  have p4 := (List.pairwise_cons.1 p2).1
  have e3 : L.filter (fun u => decide (u.id ≠ L[j].id)) = (L.take j ++ (L[j] :: L.drop (j + 1))).filter (fun u => decide (u.id ≠ L[j].id)) := congrArg _ e
  rw [e3]
  generalize L[j] = x at *
  rw [List.filter_append, List.filter_cons]
  have h1 : (L.take j).filter (fun u => decide (u.id ≠ x.id)) = L.take j := List.filter_eq_self.2 (fun u hu => by
    have := p3 u hu x List.mem_cons_self
    simp; omega)
  have h2 : (L.drop (j + 1)).filter (fun u => decide (u.id ≠ x.id)) = L.drop (j + 1) := List.filter_eq_self.2 (fun u hu => by
    have := p4 u hu
    simp; omega)
  rw [h1, h2]; simp

set_option maxHeartbeats 1000000 in
set_option maxRecDepth 100000 in
theorem rcancel_some (w : World) (b : Nat) (v : Value) (M now next : Nat) (L : List Tm) (h : RW w b v M now next L) (hL : L.length < 1000000000) (hi : (ids L).Pairwise (· < ·)) (j : Nat) (t : Tm) (ht : L[j]? = some t) (hn : now < 1000000000000) (hat : t.at_ < 1000000000000) :
    Calls Try.prog 23 #[.pointer (some ⟨b, 0, none⟩), .int .i64 (t.id : Int)] w (RetR w b v (.tuple #[.int .i64 ((t.at_ : Int) - now), .pointer none]) M now next (L.filter (fun u => decide (u.id ≠ t.id)))) := by
  have hj := (List.getElem?_eq_some_iff.1 ht).1
  have con := Lib.hid (get_some w b v M now next L h (by omega) hi j t ht "cancel".toUTF8)
  obtain ⟨i0, hi0, hz0, hz1, hz2⟩ := info_parts Try.tInfo
  obtain ⟨A, c, rfl, hc1, hc2, _, _, hp⟩ := h.ts.shape
  obtain ⟨g, rfl⟩ := hp (by omega)
  have wr : IntKind.i64.wrap ((t.at_ : Int) - now) = (t.at_ : Int) - now := wrap64 (by omega) (by omega)
  have hc3 : (c : Int) ≤ 9223372036854775807 := by unfold maxLen at hc2; omega
  have H := Lib.hid h
  have FE := Lib.hid (take_drop_filter hi ht)
  have HT := Lib.hid ht
  have HI := Lib.hid hi
  clear h ht hi hp hc2
  go_enter Try.func23, Try.ntmps23
  go_wp2_with fail
  refine con.out.mono ?_
  rintro e w1 ⟨rfl, hk⟩
  have H1 := Lib.hid ((H.out.keep hk (fun _ _ h => h)).alloc (.cells #[.int .i64 (t.id : Int), .int .i64 (t.at_ : Int), .int .i64 t.what] 57))
  have K1 := Lib.hid (hk.alloc (.cells #[.int .i64 (t.id : Int), .int .i64 (t.at_ : Int), .int .i64 t.what] 57))
  have Z1 := Lib.hid (Row.new w1 57 #[.int .i64 (t.id : Int), .int .i64 (t.at_ : Int), .int .i64 t.what])
  have con2 := Lib.hid (find_some H1.out (by omega) HI.out HT.out)
  have wz : w.heap.size ≤ w1.heap.size := hk.size
  have gw : g < w1.heap.size := Nat.lt_of_lt_of_le (H.out.ts.lt (g := g) rfl) wz
  clear con hk H
  go_wp2_with fail
  refine con2.out.mono ?_
  rintro e w2 ⟨rfl, rfl⟩
  have k3 : (w1.alloc (.cells #[.int .i64 (t.id : Int), .int .i64 (t.at_ : Int), .int .i64 t.what] 57)).cell? ⟨b, 3, none⟩ = some (.slice (some ⟨g, 0, none⟩) L.length c) := H1.out.row.cell 3
  go_wp2_with fail
  obtain ⟨W, hW⟩ : ∃ W, w1.alloc (.cells #[.int .i64 (t.id : Int), .int .i64 (t.at_ : Int), .int .i64 t.what] 57) = W := ⟨_, rfl⟩
  have WZ : Hid (w1.heap.size + 1 = W.heap.size) := by unfold Hid; rw [← hW]; simp
  rw [hW] at H1 K1 Z1 k3 ⊢
  clear hW
  have i0' : (0 : Int) ≤ (j : Int) := by omega
  have i1 : (j : Int) + 1 ≤ (L.length : Int) := by omega
  have i2 : (L.length : Int) ≤ (c : Int) := by omega
  have wj : IntKind.i64.wrap ((j : Int) + 1) = (j : Int) + 1 := wrap64 (by omega) (by omega)
  have s7 := Lib.hid (fun W' => run_full (P := Try.prog) W' Try.underlying60 hi0 (some ⟨g, 0, none⟩) L.length c j (by omega) (z := (j : Int)) rfl)
  have s14 := fun W' => run_from (P := Try.prog) W' Try.underlying60 hi0 (some ⟨g, 0, none⟩) L.length c (j + 1) (by omega) (z := (j : Int) + 1) (by omega)
  rw [hz1] at s14
  have s7' := s7.out
  have HC : Hid (LRow W.drew 57 3 (.slice (some ⟨g, 0, none⟩) j j) j (tcs (L.take j))) := by
    have h1 : LRow W 57 3 (.slice (some ⟨g, 0, none⟩) L.length c) L.length (tcs L) := H1.out.ts
    have := h1.cut (k := j) (by omega)
    rw [tcs_take] at this
    exact this
  have HR : Hid (Src W.drew 3 (cutA (some ⟨g, 0, none⟩) c (j + 1) 3) (L.length - (j + 1)) (tcs (L.drop (j + 1)))) := by
    have h1 : LRow W 57 3 (.slice (some ⟨g, 0, none⟩) L.length c) L.length (tcs L) := H1.out.ts
    have := h1.rest (k := j + 1) (A' := cutA (some ⟨g, 0, none⟩) c (j + 1) 3) (by omega) (fun hlt => cutA_ne (by omega))
    rw [tcs_drop] at this
    exact this
  have blt := H1.out.row.lt
  have bg : b ≠ g := fun e => H1.out.ne (g := g) rfl e.symm
  have bfr := H1.out.row.free
  have ZZ := Z1
  have gz : g ≠ w1.heap.size := fun e => by have := gw; omega
  clear s7 Z1
  go_region_law
    ((refine step_append_loose W.drew (by rfl) (.tmp 28) (.tmp 35) 60 (by rfl) 57 i0 (.agg #[.int .i64 0, .int .i64 0, .int .i64 0]) 3 24 Try.underlying60 hi0 hz0 hz1 hz2 (by rfl) (by omega) (.slice (some ⟨g, 0, none⟩) j j) j (tcs (L.take j)) (by rfl) HC.out (cutA (some ⟨g, 0, none⟩) c (j + 1) 3) (L.length - (j + 1)) (c - (j + 1)) (tcs (L.drop (j + 1))) (by rfl) HR.out (tcs_one _) (by unfold maxLen; omega) (by omega) ?_
      intro v3 w3 a1 a2 a3
      obtain ⟨A3, c3, rfl, _⟩ := a1.shape
      have k4 : w3.cell? ⟨b, 3, none⟩ = some (.slice (some ⟨g, 0, none⟩) L.length c) := (World.cell?_of_block (a2.block b blt (by simp [Value.ownBlock]; exact bg))).trans k3
      have f4 : w3.frozen? ⟨b, 3, none⟩ = false := by
        have hr : Row w3 b 62 _ := (a2.block b blt (by simp [Value.ownBlock]; exact bg)).trans H1.out.row
        exact hr.free 3
      have A1' := Lib.hid a1
      have A2' := Lib.hid a2
      have A3' := Lib.hid a3
      clear a1 a2 a3))
  all_goals
    have fin := H1.out.put (L' := L.take j ++ L.drop (j + 1)) (w' := w3) (v' := .slice A3 (j + (L.length - (j + 1))) c3) (by
      unfold LT
      rw [tcs_append, show (L.take j ++ L.drop (j + 1)).length = j + (L.length - (j + 1)) by simp; omega]
      exact A1'.out) (undrew A2'.out) (fun g' hg' => (A3'.out g' hg').imp (fun h => h) (fun h => by rw [h]; exact Nat.le_refl _))
    rw [FE.out] at fin
    have tlt : w1.heap.size ≠ b := fun e => by
      have h1 := H1.out.row
      have h2 := ZZ.out
      subst e
      unfold Row at h1 h2
      rw [h1] at h2
      simp at h2
    have z2 : (w3.setCell ⟨b, 3, none⟩ (.slice A3 (j + (L.length - (j + 1))) c3)).cell? ⟨w1.heap.size, 1, none⟩ = some (.int .i64 (t.at_ : Int)) := by
      have h3 : Row w3 w1.heap.size 57 _ := (A2'.out.block _ ZZ.out.lt (by simp [Value.ownBlock]; exact fun e => gz e.symm)).trans ZZ.out
      exact (h3.far (p := ⟨b, 3, none⟩) tlt _).cell 1
    have n2 := fin.1.row.cell 1
    have FIN := Lib.hid fin
    clear fin
    go_wp2_with fail
    go_quiet (fail)
    go_wp2
    go_ret2
    obtain ⟨f1, f2, f3⟩ := FIN.out
    refine ⟨rfl, _, f1.same (fun _ _ => rfl), (((K1.out.mono (fun _ _ h => h.elim)).trans f2 (fun _ _ h => h)).drewN _), fun g' hg' => (f3 g' hg').imp (fun h => h) (fun h => by have := WZ.out; omega)⟩
end Go.Proofs.Ytlbdfhbkemikgaa

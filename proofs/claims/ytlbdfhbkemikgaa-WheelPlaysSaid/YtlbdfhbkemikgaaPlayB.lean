/- WheelPlays: a script that is handed in, opened. -/
import Derived.Test.YtlbdfhbkemikgaaPlayA
import Derived.Deep.Slices
import Derived.Deep.Fields
import Derived.ChangeSame
import Derived.ProofKit
set_option linter.unusedVariables false
set_option linter.unusedSimpArgs false
namespace Go.Proofs.Ytlbdfhbkemikgaa.wheelPlays
open Go.ChangeShapes Go.WideShapes Go.Deep Go.RowKit Plain

section
variable {H : Type} {enc : TypeId × Value → H} {P : Program} {w : World} {base : Nat} {spare : Nat → Bool} {held : Bool}
theorem open_slice_fields {t e : TypeId} {fs : Array Field} {fuel : Nat} {cs : List Value} {x : DataW H × List MemPlace} (ht : P.underlying t = some (.slice e)) (he : P.underlying e = some (.struct fs))
    (hone : oneCellFields P fs = true) (hC : P.cellsOf e = fs.size) (h : DataW.trod enc P w base spare held fuel t cs = some x) :
    (cs = [.slice none 0 0] ∧ x = (.nil, [])) ∨
    ∃ (a : Addr) (len cap m : Nat), cs = [.slice (some a) len cap] ∧ len ≤ cap ∧ cap ≤ maxLen ∧ m = (if spare a.block then cap else len) ∧
      ∀ i, i < m → ∃ n : Nat, ∀ (j : Nat) (f : Field), fs[j]? = some f → ∃ (v : Value) (y : DataW H × List MemPlace), w.cell? (a.add (i * fs.size + j)) = some v ∧ DataW.trod enc P w base spare held n f.type [v] = some y := by
  rcases open_slice ht h with h0 | ⟨a, len, cap, m, n, D, Pl, hcs, hb, hl, hm, hmm, hx, hi⟩
  · exact .inl h0
  · refine .inr ⟨a, len, cap, m, hcs, hl, hm, hmm, fun i him => ?_⟩
    obtain ⟨cs', hc, ht'⟩ := hi i him
    rw [hC] at hc
    obtain ⟨ys, n', hn', hy, hlen, hyl, hf⟩ := DataW.trod_struct he ht'
    obtain ⟨_, hcl, hat⟩ := World.cells?_some hc
    refine ⟨n', fun j f hj => ?_⟩
    obtain ⟨ho, hk⟩ := hone_of hone j f hj
    have hjl : j < fs.size := (Array.getElem?_eq_some_iff.1 hj).1
    have hcell := hat j hjl
    have hv : cs'[j]? = some (cs'[j]'(by omega)) := List.getElem?_eq_getElem (by omega)
    have h1 := hf j f hj
    rw [ho, hk] at h1
    have hone' : (cs'.drop j).take 1 = [cs'[j]'(by omega)] := by
      rw [List.drop_eq_getElem_cons (by omega)]
      rfl
    rw [hone'] at h1
    have hys : ys[j]? = some (ys[j]'(by omega)) := List.getElem?_eq_getElem (by omega)
    refine ⟨_, _, ?_, h1.trans hys⟩
    rw [← Go.Deep.add_add, hcell, hv]
end

/-- an entry of a script. -/
structure Op4 where
  kind : Int
  n : Int
  id : Int
  what : Int
def I64 (x : Int) : Prop := -9223372036854775808 ≤ x ∧ x ≤ 9223372036854775807
structure OpFit (w : World) (b o : Nat) (i : Nat) (x : Op4) : Prop where
  fk : I64 x.kind ∧ w.cell? ⟨b, o + i * 4, none⟩ = some (.int .i64 x.kind)
  fn : I64 x.n ∧ w.cell? ⟨b, o + i * 4 + 1, none⟩ = some (.int .i64 x.n)
  fi : I64 x.id ∧ w.cell? ⟨b, o + i * 4 + 2, none⟩ = some (.int .i64 x.id)
  fw : I64 x.what ∧ w.cell? ⟨b, o + i * 4 + 3, none⟩ = some (.int .i64 x.what)
def OpsAt (w : World) (A : Option Addr) (n : Nat) : Prop := ∀ i, i < n → ∃ b o x, A = some ⟨b, o, none⟩ ∧ b < w.heap.size ∧ OpFit w b o i x

theorem OpsAt.keep {w w' : World} {A : Option Addr} {n : Nat} (h : OpsAt w A n) (hk : Keep Nothing w w') : OpsAt w' A n := fun i hi => by
  obtain ⟨b, o, x, e, hb, hf⟩ := h i hi
  have c : ∀ j, w'.cell? ⟨b, j, none⟩ = w.cell? ⟨b, j, none⟩ := fun j => hk.cell hb (fun h => h)
  exact ⟨b, o, x, e, Nat.lt_of_lt_of_le hb hk.size, ⟨⟨hf.fk.1, (c _).trans hf.fk.2⟩, ⟨hf.fn.1, (c _).trans hf.fn.2⟩, ⟨hf.fi.1, (c _).trans hf.fi.2⟩, ⟨hf.fw.1, (c _).trans hf.fw.2⟩⟩⟩

theorem i64_of {x : Int} (h : (Lit.int .i64 x).wf = true) : I64 x := by
  simp [Lit.wf, IntKind.min, IntKind.max, IntKind.signed, IntKind.bits] at h
  unfold I64; omega

set_option maxRecDepth 100000 in
theorem ops_open {H : Type} {enc : TypeId × Value → H} {W : World} {v : Value} {d : DataW H} {ps : List MemPlace} {base : Nat} (hval : Value.okWide Try.prog W .any base 44 v) (h : DataW.Trod enc Try.prog W 0 (fun _ => true) true 44 v d ps) :
    ∃ A n c, v = .slice A n c ∧ n ≤ c ∧ c ≤ 9223372036854775807 ∧ OpsAt W A n := by
  obtain ⟨fuel, hf⟩ := h
  have key : ∀ cs x, DataW.trod enc Try.prog W 0 (fun _ => true) true fuel 44 cs = some x → ∃ A n c, cs = [.slice A n c] ∧ n ≤ c ∧ c ≤ 9223372036854775807 ∧ OpsAt W A n := by
    intro cs x hx
    rcases open_slice_fields Try.underlying44 Try.underlying51 (by kernel_rfl) (by kernel_rfl) hx with ⟨rfl, _⟩ | ⟨a, len, cap, m, rfl, hl, hm, hmm, hi⟩
    · exact ⟨none, 0, 0, rfl, by omega, by omega, fun i hi => by omega⟩
    · refine ⟨_, len, cap, rfl, hl, by unfold maxLen at hm; omega, fun i hil => ?_⟩
      have hmc : m = cap := by simpa using hmm
      obtain ⟨n', hfs⟩ := hi i (by omega)
      obtain ⟨b, o, s⟩ := a
      obtain ⟨v0, y0, c0, t0⟩ := hfs 0 _ rfl
      obtain ⟨v1, y1, c1, t1⟩ := hfs 1 _ rfl
      obtain ⟨v2, y2, c2, t2⟩ := hfs 2 _ rfl
      obtain ⟨v3, y3, c3, t3⟩ := hfs 3 _ rfl
      obtain ⟨z0, e0, _, w0⟩ := DataW.trod_int Try.underlying3 t0
      obtain ⟨z1, e1, _, w1⟩ := DataW.trod_int Try.underlying3 t1
      obtain ⟨z2, e2, _, w2⟩ := DataW.trod_int Try.underlying2 t2
      obtain ⟨z3, e3, _, w3⟩ := DataW.trod_int Try.underlying2 t3
      have q0 : v0 = .int .i64 z0 := by simpa using e0
      have q1 : v1 = .int .i64 z1 := by simpa using e1
      have q2 : v2 = .int .i64 z2 := by simpa using e2
      have q3 : v3 = .int .i64 z3 := by simpa using e3
      rw [q0] at c0
      rw [q1] at c1
      rw [q2] at c2
      rw [q3] at c3
      have hs : s = none := by
        obtain ⟨n'', hfs0⟩ := hi 0 (by omega)
        obtain ⟨v, y, c, _⟩ := hfs0 0 _ rfl
        rw [Nat.zero_mul] at c
        have e1 : ((⟨b, o, s⟩ : Addr).add (0 + 0)) = ⟨b, o, s⟩ := rfl
        rw [e1] at c
        unfold World.cell? at c
        split at c
        · cases s with
          | none => rfl
          | some s => simp at c
        · simp at c
      subst hs
      have hadd : ∀ j, ((⟨b, o, none⟩ : Addr).add j) = ⟨b, o + j, none⟩ := fun j => addr_add0 b o j
      rw [hadd] at c0 c1 c2 c3
      refine ⟨b, o, ⟨z0, z1, z2, z3⟩, rfl, ?_, ⟨i64_of w0, c0⟩, ⟨i64_of w1, by rw [Nat.add_assoc]; exact c1⟩, ⟨i64_of w2, by rw [Nat.add_assoc]; exact c2⟩, ⟨i64_of w3, by rw [Nat.add_assoc]; exact c3⟩⟩
      unfold World.cell? at c0
      split at c0
      · rename_i hh; exact (Array.getElem?_eq_some_iff.1 hh).1
      · simp at c0
  obtain ⟨A, n, c, hv, r⟩ := key _ _ hf
  refine ⟨A, n, c, ?_, r⟩
  obtain ⟨a, l, k, hs⟩ : ∃ a l k, v = .slice a l k := okWide_slice Try.underlying44 hval
  subst hs
  have e2 : [Value.slice a l k] = [Value.slice A n c] := hv
  exact (List.cons.inj e2).1
end Go.Proofs.Ytlbdfhbkemikgaa.wheelPlays

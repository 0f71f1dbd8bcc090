/- A script that is handed in, opened: what its reading as data says of the cells. -/
import Derived.Test.YtniopaimhncmkaaCopyD
import Derived.ProofKit
import Derived.OpenShut
set_option linter.unusedVariables false
set_option linter.unusedSimpArgs false
namespace Go.Proofs.Ytniopaimhncmkaa
open Go.RowKit Go.ChangeShapes Go.WideShapes Go.ChangeAt Go.Proofs.Ytniopaimhncmkaa.Plain

section
variable {H : Type} {enc : TypeId × Value → H} {W : World}

def Light (P : Program) (t : TypeId) (d : DataW H) : Prop := ∀ n ∈ d.weights P t, n ≤ 140737488351232

theorem cell_lt {w : World} {b o : Nat} {v : Value} (h : w.cell? ⟨b, o, none⟩ = some v) : b < w.heap.size := by
  unfold World.cell? at h
  split at h
  · rename_i hh; exact (Array.getElem?_eq_some_iff.1 hh).1
  · simp at h

/-- a slice that reads as data: its address, its elements. -/
theorem slice_opens {P : Program} {t e : TypeId} {fuel : Nat} {cs : List Value} {x : DataW H × List MemPlace} (ht : P.underlying t = some (.slice e)) (hz : 0 < P.cellsOf e)
    (h : DataW.trod enc P W 0 (fun _ => true) true fuel t cs = some x) (hl : Light P t x.1) :
    ∃ (A : Option Addr) (n c : Nat), cs = [.slice A n c] ∧ (A = none → n = 0 ∧ c = 0) ∧ n ≤ c ∧ c * P.bytesOf e ≤ 140737488351232 ∧
      (0 < n → ∃ b o m, A = some ⟨b, o, none⟩ ∧ b < W.heap.size ∧ fuel = m + 1 ∧ ∀ i, i < n → ∃ cs' y, cs'.length = P.cellsOf e ∧ (∀ j, j < P.cellsOf e → W.cell? ⟨b, o + i * P.cellsOf e + j, none⟩ = cs'[j]?) ∧
        DataW.trod enc P W 0 (fun _ => true) true m e cs' = some y ∧ Light P e y.1) := by
  rcases DataW.trod_slice ht h with ⟨rfl, rfl⟩ | ⟨a, len, cap, elems, rest, m, rfl, rfl, rfl, _, hlc, _, hel, hE, hS, _⟩
  · exact ⟨none, 0, 0, rfl, fun _ => ⟨rfl, rfl⟩, Nat.le_refl _, by omega, fun h => by omega⟩
  · have hw : Light P t (.slice (elems.map (·.1)) (rest.map (·.1))) := hl
    unfold Light at hw
    rw [DataW.weights.eq_5 P t, ht] at hw
    have hr := (hS rfl).1
    have hcap : cap * P.bytesOf e ≤ 140737488351232 := by
      have := hw _ (List.mem_cons_self ..)
      simp only [List.length_map] at this
      rw [hel, hr, show len + (cap - len) = cap by omega] at this
      exact this
    have hall : ∀ (l : List (DataW H × List MemPlace)) (y : DataW H × List MemPlace), y ∈ l → ∀ n ∈ y.1.weights P e, n ∈ DataW.weightsAll P e (l.map (·.1)) := by
      intro l
      induction l with
      | nil => intro y hy; simp at hy
      | cons z l ih =>
        intro y hy n hn
        rw [List.map_cons, DataW.weightsAll]
        rcases List.mem_cons.1 hy with rfl | hy
        · exact List.mem_append_left _ hn
        · exact List.mem_append_right _ (ih y hy n hn)
    refine ⟨some a, len, cap, rfl, (fun h => by cases h), hlc, hcap, fun hp => ?_⟩
    have get : ∀ i, i < len → ∃ cs' y, elems[i]? = some y ∧ W.cells? 0 (a.add (i * P.cellsOf e)) (P.cellsOf e) = some cs' ∧ DataW.trod enc P W 0 (fun _ => true) true m e cs' = some y := by
      intro i hi
      have h1 := hE i hi
      have h2 : elems[i]? = some (elems[i]'(by omega)) := List.getElem?_eq_getElem (by omega)
      rw [h2] at h1
      obtain ⟨cs', hc, ht'⟩ := Option.bind_eq_some_iff.1 h1
      exact ⟨cs', _, h2, hc, ht'⟩
    have cells : ∀ i, i < len → ∃ cs' y, y ∈ elems ∧ cs'.length = P.cellsOf e ∧ (∀ j, j < P.cellsOf e → W.cell? ((a.add (i * P.cellsOf e)).add j) = cs'[j]?) ∧ DataW.trod enc P W 0 (fun _ => true) true m e cs' = some y := by
      intro i hi
      obtain ⟨cs', y, hy, hc, ht'⟩ := get i hi
      obtain ⟨_, hlen, hcell⟩ := World.cells?_some hc
      exact ⟨cs', y, List.mem_of_getElem? hy, hlen, hcell, ht'⟩
    obtain ⟨b, o, s⟩ := a
    have hs : s = none := by
      obtain ⟨cs', y, _, hlen, hcell, _⟩ := cells 0 hp
      have h0 := hcell 0 hz
      simp only [Nat.zero_mul] at h0
      have e1 : ((⟨b, o, s⟩ : Addr).add 0).add 0 = ⟨b, o, s⟩ := rfl
      rw [e1] at h0
      have h3 : cs'[0]? = some (cs'[0]'(by omega)) := List.getElem?_eq_getElem (by omega)
      rw [h3] at h0
      unfold World.cell? at h0
      split at h0
      · cases s with
        | none => rfl
        | some s => simp at h0
      · simp at h0
    subst hs
    have hadd : ∀ i j, (((⟨b, o, none⟩ : Addr).add i).add j) = ⟨b, o + i + j, none⟩ := by
      intro i j
      unfold Addr.add
      split <;> split <;> simp_all
    have hb : b < W.heap.size := by
      obtain ⟨cs', y, _, hlen, hcell, _⟩ := cells 0 hp
      have h0 := hcell 0 hz
      rw [hadd] at h0
      have h3 : cs'[0]? = some (cs'[0]'(by omega)) := List.getElem?_eq_getElem (by omega)
      rw [h3] at h0
      exact cell_lt h0
    refine ⟨b, o, m, rfl, hb, rfl, fun i hi => ?_⟩
    obtain ⟨cs', y, hy, hlen, hcell, ht'⟩ := cells i hi
    refine ⟨cs', y, hlen, fun j hj => by rw [← hadd]; exact hcell j hj, ht', fun n hn => ?_⟩
    exact hw n (List.mem_cons_of_mem _ (List.mem_append_left _ (hall elems y hy n hn)))

theorem bytes_open {fuel : Nat} {cs : List Value} {x : DataW H × List MemPlace} (h : DataW.trod enc Try.prog W 0 (fun _ => true) true fuel 30 cs = some x) (hl : Light Try.prog 30 x.1) : ∃ v, cs = [v] ∧ BytesAt W v := by
  obtain ⟨A, n, c, rfl, hnil, hnc, hc, hp⟩ := slice_opens Try.underlying30 (by rw [show Try.prog.cellsOf 5 = 1 by kernel_rfl]; omega) h hl
  rw [show Try.prog.bytesOf 5 = 1 by kernel_rfl] at hc
  refine ⟨_, rfl, A, n, c, rfl, hnil, by omega, fun h0 => ?_⟩
  obtain ⟨b, o, m, e, hb, _, hi⟩ := hp h0
  rw [show Try.prog.cellsOf 5 = 1 by kernel_rfl] at hi
  refine ⟨b, o, e, hb, fun j hj => ?_⟩
  obtain ⟨cs', y, hlen, hcell, ht, _⟩ := hi j hj
  obtain ⟨q, rfl, _, _⟩ := DataW.trod_int Try.underlying5 ht
  exact ⟨q, by simpa using hcell 0 (by omega)⟩

theorem each_mem {P : Program} : ∀ (ts : List TypeId) (ds : List (DataW H)) (i : Nat) (t : TypeId) (d : DataW H), ts[i]? = some t → ds[i]? = some d → ∀ n ∈ d.weights P t, n ∈ DataW.weightsEach P ts ds
  | [], ds, i, t, d, h, _ => by simp at h
  | t0 :: ts, [], i, t, d, _, h => by simp at h
  | t0 :: ts, d0 :: ds, 0, t, d, h, h' => by
    simp at h h'
    subst h; subst h'
    intro n hn
    rw [DataW.weightsEach]
    exact List.mem_append_left _ hn
  | t0 :: ts, d0 :: ds, i + 1, t, d, h, h' => by
    intro n hn
    rw [DataW.weightsEach]
    exact List.mem_append_right _ (each_mem ts ds i t d (by simpa using h) (by simpa using h') n hn)

theorem light_field {P : Program} {t : TypeId} {fs : Array Field} {xs : List (DataW H × List MemPlace)} (ht : P.underlying t = some (.struct fs)) (hl : Light P t (.agg (xs.map (·.1)))) (i : Nat) (f : Field) (y : DataW H × List MemPlace)
    (hf : fs[i]? = some f) (hy : xs[i]? = some y) : Light P f.type y.1 := by
  intro n hn
  apply hl
  rw [DataW.weights.eq_6 P t, ht]
  exact each_mem _ _ i f.type y.1 (by simp [hf]) (by simp [hy]) n hn

theorem term_open (fuel : Nat) : (∀ (cs : List Value) (x : DataW H × List MemPlace), DataW.trod enc Try.prog W 0 (fun _ => true) true fuel 32 cs = some x → Light Try.prog 32 x.1 → TermAt W fuel cs) ∧
    (∀ (cs : List Value) (x : DataW H × List MemPlace), DataW.trod enc Try.prog W 0 (fun _ => true) true fuel 29 cs = some x → Light Try.prog 29 x.1 → ∃ v, cs = [v] ∧ TermsAt W fuel v) := by
  induction fuel with
  | zero => exact ⟨fun cs x h => by simp [DataW.trod] at h, fun cs x h => by simp [DataW.trod] at h⟩
  | succ m ih =>
    constructor
    · intro cs x h hl
      obtain ⟨ys, m', hm, hx, hlen, hyl, hf⟩ := DataW.trod_struct Try.underlying32 h
      obtain rfl : m = m' := by omega
      rw [show Try.prog.cellsOf 32 = 6 by kernel_rfl] at hlen
      subst hx
      match cs, hlen with
      | [c0, c1, c2, c3, c4, c5], _ =>
        match ys, hyl with
        | [y0, y1, y2, y3, y4, y5], _ =>
          have g0 : DataW.trod enc Try.prog W 0 (fun _ => true) true m 3 (([c0, c1, c2, c3, c4, c5].drop 0).take (Try.prog.cellsOf 3)) = some y0 := hf 0 _ rfl
          have g1 : DataW.trod enc Try.prog W 0 (fun _ => true) true m 2 (([c0, c1, c2, c3, c4, c5].drop 1).take (Try.prog.cellsOf 2)) = some y1 := hf 1 _ rfl
          have g2 : DataW.trod enc Try.prog W 0 (fun _ => true) true m 9 (([c0, c1, c2, c3, c4, c5].drop 2).take (Try.prog.cellsOf 9)) = some y2 := hf 2 _ rfl
          have g3 : DataW.trod enc Try.prog W 0 (fun _ => true) true m 29 (([c0, c1, c2, c3, c4, c5].drop 3).take (Try.prog.cellsOf 29)) = some y3 := hf 3 _ rfl
          have g4 : DataW.trod enc Try.prog W 0 (fun _ => true) true m 29 (([c0, c1, c2, c3, c4, c5].drop 4).take (Try.prog.cellsOf 29)) = some y4 := hf 4 _ rfl
          have g5 : DataW.trod enc Try.prog W 0 (fun _ => true) true m 30 (([c0, c1, c2, c3, c4, c5].drop 5).take (Try.prog.cellsOf 30)) = some y5 := hf 5 _ rfl
          have l3 : Light Try.prog 29 y3.1 := light_field Try.underlying32 hl 3 _ y3 rfl rfl
          have l4 : Light Try.prog 29 y4.1 := light_field Try.underlying32 hl 4 _ y4 rfl rfl
          have l5 : Light Try.prog 30 y5.1 := light_field Try.underlying32 hl 5 _ y5 rfl rfl
          simp only [show Try.prog.cellsOf 3 = 1 by kernel_rfl, show Try.prog.cellsOf 2 = 1 by kernel_rfl, show Try.prog.cellsOf 9 = 1 by kernel_rfl, show Try.prog.cellsOf 29 = 1 by kernel_rfl, show Try.prog.cellsOf 30 = 1 by kernel_rfl, List.drop_succ_cons, List.drop_zero, List.take_succ_cons, List.take_zero] at g0 g1 g2 g3 g4 g5
          obtain ⟨q0, e0, _, _⟩ := DataW.trod_int Try.underlying3 g0
          obtain ⟨q1, e1, _, _⟩ := DataW.trod_int Try.underlying2 g1
          obtain ⟨q2, e2, _, _⟩ := DataW.trod_string Try.underlying9 g2
          obtain ⟨v3, e3, t3⟩ := ih.2 _ _ g3 l3
          obtain ⟨v4, e4, t4⟩ := ih.2 _ _ g4 l4
          obtain ⟨v5, e5, t5⟩ := bytes_open g5 l5
          simp only [List.cons.injEq, and_true] at e0 e1 e2 e3 e4 e5
          subst e0 e1 e2 e3 e4 e5
          rw [TermAt]
          exact ⟨q0, q1, q2, _, _, _, rfl, t3, t4, t5⟩
    · intro cs x h hl
      obtain ⟨A, n, c, rfl, hnil, hnc, hc, hp⟩ := slice_opens Try.underlying29 (by rw [show Try.prog.cellsOf 32 = 6 by kernel_rfl]; omega) h hl
      rw [show Try.prog.bytesOf 32 = 104 by kernel_rfl] at hc
      refine ⟨_, rfl, ?_⟩
      rw [TermsAt]
      refine ⟨A, n, c, rfl, hnil, by omega, fun h0 => ?_⟩
      obtain ⟨b, o, m', e, hb, hm, hi⟩ := hp h0
      obtain rfl : m = m' := by omega
      rw [show Try.prog.cellsOf 32 = 6 by kernel_rfl] at hi
      refine ⟨b, o, e, hb, fun i hin => ?_⟩
      obtain ⟨cs', y, hlen, hcell, ht, hly⟩ := hi i hin
      exact ⟨cs', ih.1 cs' y ht hly, hcell⟩

/-- an entry's cells. -/
theorem entry_open {fuel : Nat} {cs : List Value} {x : DataW H × List MemPlace} (h : DataW.trod enc Try.prog W 0 (fun _ => true) true fuel 34 cs = some x) (hl : Light Try.prog 34 x.1) :
    ∃ (e : Ent) (s3 : ByteArray) (ts : List Value) (d : Nat), cs = [.int .i64 e.kind, .int .i64 e.a, .int .i64 e.b, .string s3] ++ ts ∧ ts.length = 6 ∧ TermAt W d ts ∧ -9223372036854775808 ≤ e.a ∧ e.a ≤ 9223372036854775807 := by
  obtain ⟨ys, m, hm, hx, hlen, hyl, hf⟩ := DataW.trod_struct Try.underlying34 h
  rw [show Try.prog.cellsOf 34 = 10 by kernel_rfl] at hlen
  subst hx
  match cs, hlen with
  | [c0, c1, c2, c3, c4, c5, c6, c7, c8, c9], _ =>
    match ys, hyl with
    | [y0, y1, y2, y3, y4], _ =>
      have g0 : DataW.trod enc Try.prog W 0 (fun _ => true) true m 3 (([c0, c1, c2, c3, c4, c5, c6, c7, c8, c9].drop 0).take (Try.prog.cellsOf 3)) = some y0 := hf 0 _ rfl
      have g1 : DataW.trod enc Try.prog W 0 (fun _ => true) true m 3 (([c0, c1, c2, c3, c4, c5, c6, c7, c8, c9].drop 1).take (Try.prog.cellsOf 3)) = some y1 := hf 1 _ rfl
      have g2 : DataW.trod enc Try.prog W 0 (fun _ => true) true m 3 (([c0, c1, c2, c3, c4, c5, c6, c7, c8, c9].drop 2).take (Try.prog.cellsOf 3)) = some y2 := hf 2 _ rfl
      have g3 : DataW.trod enc Try.prog W 0 (fun _ => true) true m 9 (([c0, c1, c2, c3, c4, c5, c6, c7, c8, c9].drop 3).take (Try.prog.cellsOf 9)) = some y3 := hf 3 _ rfl
      have g4 : DataW.trod enc Try.prog W 0 (fun _ => true) true m 32 (([c0, c1, c2, c3, c4, c5, c6, c7, c8, c9].drop 4).take (Try.prog.cellsOf 32)) = some y4 := hf 4 _ rfl
      have l4 : Light Try.prog 32 y4.1 := light_field Try.underlying34 hl 4 _ y4 rfl rfl
      simp only [show Try.prog.cellsOf 3 = 1 by kernel_rfl, show Try.prog.cellsOf 9 = 1 by kernel_rfl, show Try.prog.cellsOf 32 = 6 by kernel_rfl, List.drop_succ_cons, List.drop_zero, List.take_succ_cons, List.take_zero] at g0 g1 g2 g3 g4
      obtain ⟨q0, e0, _, _⟩ := DataW.trod_int Try.underlying3 g0
      obtain ⟨q1, e1, _, w1⟩ := DataW.trod_int Try.underlying3 g1
      obtain ⟨q2, e2, _, _⟩ := DataW.trod_int Try.underlying3 g2
      obtain ⟨q3, e3, _, _⟩ := DataW.trod_string Try.underlying9 g3
      have t4 := (term_open m).1 _ _ g4 l4
      simp only [List.cons.injEq, and_true] at e0 e1 e2 e3
      subst e0 e1 e2 e3
      have b1 : -9223372036854775808 ≤ q1 ∧ q1 ≤ 9223372036854775807 := by simp [Lit.wf, IntKind.min, IntKind.max, IntKind.signed, IntKind.bits] at w1; omega
      exact ⟨⟨q0, q1, q2⟩, q3, _, m, rfl, rfl, t4, b1.1, b1.2⟩

/-- a script. -/
theorem script_open {v : Value} {d : DataW H} {p : List MemPlace} (h : DataW.Trod enc Try.prog W 0 (fun _ => true) true 25 v d p) (hl : Light Try.prog 25 d) (hv : ∃ A n c, v = .slice A n c) :
    ∃ (A : Option Addr) (n c : Nat) (f : Nat → Ent), v = .slice A n c ∧ (A = none → n = 0 ∧ c = 0) ∧ n ≤ c ∧ ScriptT W A n f := by
  obtain ⟨fuel, h⟩ := h
  obtain ⟨A', n', c', rfl⟩ := hv
  obtain ⟨A, n, c, e, hnil, hnc, hc, hp⟩ := slice_opens Try.underlying25 (by rw [show Try.prog.cellsOf 34 = 10 by kernel_rfl]; omega) h hl
  simp only [Value.cells, List.cons.injEq, and_true] at e
  rw [show Try.prog.bytesOf 34 = 144 by kernel_rfl] at hc
  rw [show Try.prog.cellsOf 34 = 10 by kernel_rfl] at hp
  by_cases h0 : 0 < n
  · obtain ⟨b, o, m, ea, hb, hm, hi⟩ := hp h0
    have hx : ∀ i, ∃ e : Ent, (-9223372036854775808 ≤ e.a ∧ e.a ≤ 9223372036854775807) ∧ (i < n → EntT W b (o + i * 10) e) := by
      intro i
      by_cases hin : i < n
      · obtain ⟨cs', y, hlen, hcell, ht, hly⟩ := hi i hin
        obtain ⟨e, s3, ts, d, rfl, hts, htt, b1, b2⟩ := entry_open ht hly
        refine ⟨e, ⟨b1, b2⟩, fun _ => ⟨s3, ts, d, by simpa using hcell 0 (by omega), by simpa using hcell 1 (by omega), by simpa using hcell 2 (by omega), by simpa using hcell 3 (by omega), htt, fun j hj => ?_⟩⟩
        have := hcell (4 + j) (by omega)
        rw [show o + i * 10 + (4 + j) = o + i * 10 + 4 + j by omega] at this
        rw [this, List.getElem?_append_right (by simp)]
        congr 1
        simp
      · exact ⟨⟨0, 0, 0⟩, by simp, fun h => absurd h hin⟩
    obtain ⟨f, hf⟩ := Classical.axiomOfChoice hx
    exact ⟨A, n, c, f, by simpa using e, hnil, hnc, by omega, fun i => (hf i).1, fun _ => ⟨b, o, ea, hb, fun i hin => (hf i).2 hin⟩⟩
  · exact ⟨A, n, c, fun _ => ⟨0, 0, 0⟩, by simpa using e, hnil, hnc, by omega, fun i => by simp, fun h => absurd h h0⟩
end

/-- a script whole is a script. -/
theorem ScriptT.at {w : World} {A : Option Addr} {n : Nat} {f : Nat → Ent} (h : ScriptT w A n f) : ScriptAt w A n f := by
  intro hp
  obtain ⟨b, o, e, hb, hc⟩ := h.2.2 hp
  refine ⟨b, o, e, hb, fun i hi => ?_, h.2.1⟩
  obtain ⟨s3, cs, d, h0, h1, h2, h3, ht, hcell⟩ := hc i hi
  obtain ⟨d', rfl⟩ : ∃ d', d = d' + 1 := by
    cases d with
    | zero => simp [TermAt] at ht
    | succ d' => exact ⟨d', rfl⟩
  obtain ⟨k4, n5, s6, A7, A8, A9, l7, c7, l8, c8, l9, c9, rfl⟩ := six cs ht
  exact ⟨s3, s6, k4, n5, A7, A8, A9, l7, c7, l8, c8, l9, c9, h0, h1, h2, h3, hcell 0 (by omega), hcell 1 (by omega), hcell 2 (by omega), hcell 3 (by omega), hcell 4 (by omega), hcell 5 (by omega)⟩

theorem ScriptT.less {w : World} {A : Option Addr} {n m : Nat} {f : Nat → Ent} (h : ScriptT w A n f) (hm : m ≤ n) : ScriptT w A m f :=
  ⟨by have := h.1; omega, h.2.1, fun hp => by
    obtain ⟨b, o, e, hb, hc⟩ := h.2.2 (by omega)
    exact ⟨b, o, e, hb, fun i hi => hc i (by omega)⟩⟩

end Go.Proofs.Ytniopaimhncmkaa

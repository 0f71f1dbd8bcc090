/- The walk of Tick's closure: who of a list is there goes. -/
import Derived.Test.YtlbdfhbkemikgaaTake
set_option linter.unusedVariables false
set_option linter.unusedSimpArgs false
namespace Go.Proofs.Ytlbdfhbkemikgaa
open Go.RowKit Plain

theorem wp_append_one' {ops : Array Oper} {rest : List Oper} {o : Oper} {a : Act} {Q : Exit → Act → World → Prop} (hgd : o.guard = none) (s x : Operand)
    (ho : o.op = .call { callee := .builtin .append, args := #[s, x], argTypes := #[29, 29] }) (v : Value) (l : List Nat) (W : World) (hv : Sl W v l) (k : Nat) (hs : a.eval s = v) (s0 : Nat) (hs0 : W.heap.size = s0)
    (hx : a.eval x = .slice (some ⟨s0, 0, none⟩) 1 1) (hlen : l.length < 1099511627776)
    (h : ∀ A n c w', Sl w' (.slice A n c) (l ++ [k]) → W.grownBy w' v.ownBlock → (∀ g, (Value.slice A n c).ownBlock = some g → v.ownBlock = some g ∨ W.heap.size ≤ g) → wpList Try.prog ops Q rest (a.put o.dst (.slice A n c)) w') :
    wpList Try.prog ops Q (o :: rest) a (W.alloc (.cells #[iv k] 2)) := by
  subst hs0
  exact wp_append_one hgd s x ho v l W hv k hs hx hlen h

def stepT (acc : List Nat × List Tm) (x : Nat) : List Nat × List Tm :=
  if ∃ t ∈ acc.2, t.id = x then (acc.1 ++ [x], acc.2.filter (fun t => decide (t.id ≠ x))) else acc
def takeT (L : List Tm) (l : List Nat) : List Nat × List Tm := l.foldl stepT ([], L)
theorem takeT_succ (L : List Tm) (l : List Nat) (k : Nat) (id : Nat) (h : l[k]? = some id) : takeT L (l.take (k + 1)) = stepT (takeT L (l.take k)) id := by
  unfold takeT
  rw [List.take_add_one, h]
  simp

structure OkL (L : List Tm) : Prop where
  inc : (ids L).Pairwise (· < ·)
  lt_ : ∀ t ∈ L, t.id < 1000000000000

theorem OkL.ranged {L : List Tm} (ok : OkL L) : Ranged (ents L) := by
  intro x hx
  obtain ⟨t, ht, rfl⟩ := List.mem_map.1 hx
  have := ok.lt_ t ht
  exact wf_i64 (by show (-9223372036854775808 : Int) ≤ (t.id : Int); omega) (by show (t.id : Int) ≤ 9223372036854775807; omega)
theorem OkL.uniq {L : List Tm} (ok : OkL L) {t : Tm} (ht : t ∈ L) : ∀ x ∈ ents L, x.1 = (t.id : Int) → x.2 = (ent t).2 := by
  intro x hx e
  obtain ⟨u, hu, rfl⟩ := List.mem_map.1 hx
  have e2 : (u.id : Int) = t.id := e
  rw [ids_inj ok.inc u hu t ht (by omega)]
theorem OkL.filter {L : List Tm} (ok : OkL L) (q : Tm → Bool) : OkL (L.filter q) := by
  refine ⟨?_, fun t ht => ok.lt_ t (List.mem_filter.1 ht).1⟩
  unfold ids
  exact ok.inc.sublist ((List.filter_sublist).map _)
theorem OkL.step {acc : List Nat × List Tm} (ok : OkL acc.2) (x : Nat) : OkL (stepT acc x).2 := by
  unfold stepT
  split
  · exact ok.filter _
  · exact ok
theorem OkL.take {L : List Tm} (ok : OkL L) (l : List Nat) : OkL (takeT L l).2 := by
  unfold takeT
  generalize ([] : List Nat) = a0
  induction l generalizing a0 L with
  | nil => exact ok
  | cons x l ih =>
    have h := OkL.step (acc := (a0, L)) ok x
    show OkL (l.foldl stepT (stepT (a0, L) x)).2
    generalize stepT (a0, L) x = acc at h ⊢
    obtain ⟨a, b⟩ := acc
    exact ih h a

/-- what a take may turn. -/
def footT (p m : Nat) (V : Nat → Value) (r : Nat) (vg v : Value) (k : Nat) : Prop := foot p m V k ∨ k = r ∨ vg.ownBlock = some k ∨ v.ownBlock = some k

/-- between the takes: the wheel, the two cells, who is gone. -/
structure Tk (w : World) (p m q r : Nat) (V : Nat → Value) (S : WS) (vg : Value) (G : List Nat) : Prop where
  wh : Wh w p m V S
  rq : Row w q 23 #[.pointer (some ⟨p, 0, none⟩)]
  rr : Row w r 29 #[vg]
  sg : Sl w vg G
  nq : ¬ foot p m V q
  nr : ¬ foot p m V r
  ng : ∀ g, vg.ownBlock = some g → ¬ foot p m V g

theorem Tk.qr {w : World} {p m q r : Nat} {V : Nat → Value} {S : WS} {vg : Value} {G : List Nat} (h : Tk w p m q r V S vg G) : q ≠ r := by
  intro e
  have h1 := h.rq
  have h2 := h.rr
  subst e
  unfold Row at h1 h2
  rw [h1] at h2
  simp at h2

theorem Tk.gqr {w : World} {p m q r : Nat} {V : Nat → Value} {S : WS} {vg : Value} {G : List Nat} (h : Tk w p m q r V S vg G) {g : Nat} (hg : vg.ownBlock = some g) : g ≠ q ∧ g ≠ r := by
  obtain ⟨cs, hc⟩ := h.sg.ty hg
  have h1 := h.rq
  have h2 := h.rr
  unfold Row at h1 h2
  refine ⟨fun e => ?_, fun e => ?_⟩
  · subst e; rw [h1] at hc; simp at hc
  · subst e; rw [h2] at hc; simp at hc

theorem takeT_len (L : List Tm) (l : List Nat) : (takeT L l).1.length ≤ l.length := by
  have key : ∀ (l : List Nat) (acc : List Nat × List Tm), (l.foldl stepT acc).1.length ≤ acc.1.length + l.length := by
    intro l
    induction l with
    | nil => intro acc; simp
    | cons x l ih =>
      intro acc
      have h := ih (stepT acc x)
      have h2 : (stepT acc x).1.length ≤ acc.1.length + 1 := by unfold stepT; split <;> simp
      simp only [List.foldl_cons, List.length_cons]
      omega
  have := key l ([], L)
  simpa [takeT] using this

def TRel (w1 : World) (p m q r : Nat) (V : Nat → Value) (S : WS) (vg : Value) (G : List Nat) (v : Value) (l : List Nat) (i : Value) (wr : World) : Prop :=
  ∃ (k : Nat) (vg' : Value), k ≤ l.length ∧ i = .int .i64 k ∧ Tk wr p m q r V { S with live := (takeT S.live (l.take k)).2 } vg' (G ++ (takeT S.live (l.take k)).1) ∧ Sl wr v l ∧
    (∀ g, vg'.ownBlock = some g → v.ownBlock ≠ some g ∧ (vg.ownBlock = some g ∨ w1.heap.size ≤ g)) ∧ Keep (footT p m V r vg v) w1 wr

def RetTk (w : World) (p m q r : Nat) (V : Nat → Value) (S : WS) (vg : Value) (G : List Nat) (v : Value) (l : List Nat) (e : Ending) (w' : World) : Prop :=
  e = .returned (.tuple #[]) ∧ ∃ vg', Tk w' p m q r V { S with live := (takeT S.live l).2 } vg' (G ++ (takeT S.live l).1) ∧ (∀ g, vg'.ownBlock = some g → vg.ownBlock = some g ∨ w.heap.size ≤ g) ∧ Keep (footT p m V r vg v) w w'

set_option maxHeartbeats 1000000 in
set_option maxRecDepth 100000 in
theorem take_c (w : World) (p m q r : Nat) (V : Nat → Value) (S : WS) (vg : Value) (G : List Nat) (h : Tk w p m q r V S vg G) (S1 : WS) (okl : OkL S1.live) (v : Value) (l : List Nat) (hv : Sl w v l) (hl : l.length < 1000000000000) (hb : ∀ id ∈ l, id < 1000000000000)
    (hG : G.length + l.length < 1000000000000) (nv : ∀ g, v.ownBlock = some g → g ≠ m ∧ vg.ownBlock ≠ some g) (hs : ∀ w1, Sl w1 v (sortL l) → w.grownBy w1 v.ownBlock → Wh w1 p m V S1) :
    Calls Try.prog 28 #[v, .pointer (some ⟨q, 0, none⟩), .pointer (some ⟨r, 0, none⟩)] w (RetTk w p m q r V S1 vg G v (sortL l)) := by
  rcases sl_cases hv with ⟨rfl, rfl⟩ | ⟨g, c, rfl⟩
  · have con := Lib.hid (sort_c w _ _ hv hl)
    have es : Hid (sortL [] = []) := by unfold Hid; simp [sortL]
    rw [es.out] at con ⊢
    have H := Lib.hid h
    have HS1 := Lib.hid hs
    rw [es.out] at HS1
    clear h hv nv hb hs
    go_enter Try.func28, Try.ntmps28
    go_wp2_with fail
    refine con.out.mono ?_
    rintro e w1 ⟨rfl, hsn, hgr⟩
    have hk : ∀ k, k < w.heap.size → w1.heap[k]? = w.heap[k]? := fun k hk => hgr.block k hk (by simp [Value.ownBlock])
    have fin : Tk w1 p m q r V S1 vg G := ⟨HS1.out w1 hsn hgr, (hk q H.out.rq.lt).trans H.out.rq, (hk r H.out.rr.lt).trans H.out.rr, H.out.sg.of_block (fun g hg => hk g (H.out.sg.lt hg)), H.out.nq, H.out.nr, H.out.ng⟩
    have FIN := Lib.hid fin
    have KK : Hid (Keep (footT p m V r vg (.slice none 0 0)) w w1) := (Keep.refl _ w).grown hgr (fun k hk => by simp [Value.ownBlock] at hk)
    clear fin hk hgr hsn
    go_wp2
    refine wp_loop_rounds 1 ?_
    rw [rounds_succ]
    go_wp2
    go_end0
    exact ⟨rfl, vg, by simpa [takeT] using FIN.out, fun g hg => .inl hg, KK.out⟩
  · have con := Lib.hid (sort_c w _ l hv hl)
    have H := Lib.hid h
    have NV := Lib.hid nv
    have HB : Hid (∀ id ∈ sortL l, id < 1000000000000) := fun id hid => hb id (sortL_mem.1 hid)
    have HLS : Hid ((sortL l).length = l.length) := sortL_len l
    have hgw : g < w.heap.size := hv.lt rfl
    have OKL := Lib.hid okl
    have HS1 := Lib.hid hs
    have gq : g ≠ q := fun e => by
      obtain ⟨cs, hc⟩ := hv.ty (g := g) rfl
      have h1 := h.rq
      subst e; unfold Row at h1; rw [h1] at hc; simp at hc
    have gr : g ≠ r := fun e => by
      obtain ⟨cs, hc⟩ := hv.ty (g := g) rfl
      have h1 := h.rr
      subst e; unfold Row at h1; rw [h1] at hc; simp at hc
    clear h hv nv hb okl hs
    generalize sortL l = ls at *
    go_enter Try.func28, Try.ntmps28
    go_wp2_with fail
    refine con.out.mono ?_
    rintro e w1 ⟨rfl, hsv, hgr⟩
    have hk : ∀ k, k < w.heap.size → k ≠ g → w1.heap[k]? = w.heap[k]? := fun k hk hne => hgr.block k hk (by simp [Value.ownBlock]; exact hne)
    have nvg := NV.out g rfl
    have fin : Tk w1 p m q r V S1 vg G := ⟨HS1.out w1 hsv hgr, (hk q H.out.rq.lt gq.symm).trans H.out.rq, (hk r H.out.rr.lt gr.symm).trans H.out.rr,
      H.out.sg.of_block (fun g' hg => hk g' (H.out.sg.lt hg) (fun e => nvg.2 (e ▸ hg))), H.out.nq, H.out.nr, H.out.ng⟩
    have FIN := Lib.hid fin
    have SV := Lib.hid hsv
    have KK : Hid (Keep (footT p m V r vg (.slice (some ⟨g, 0, none⟩) l.length c)) w w1) := (Keep.refl _ w).grown hgr (fun k hk _ => .inr (.inr (.inr hk)))
    clear fin hk hgr hsv con
    go_wp2
    have n1 : p ≠ r := fun e => H.out.nr (e ▸ .inl rfl)
    have n2 : q ≠ r := H.out.qr
    have hgv : g < w1.heap.size := SV.out.lt rfl
    go_loopw [12] (fun i wr => TRel w1 p m q r V S1 vg G (.slice (some ⟨g, 0, none⟩) l.length c) ls i wr) (fun i _ => l.length - (intOf i).toNat)
    case atStart => exact ⟨0, vg, Nat.zero_le _, rfl, by simpa [takeT] using FIN.out, SV.out, fun g' hg => ⟨fun e => nvg.2 (by simp [Value.ownBlock] at e; rw [e]; exact hg), .inl hg⟩, Keep.refl _ _⟩
    case round =>
      obtain ⟨k, vg', hk, rfl, htk, hsv, hown, hkeep⟩ := hrel
      have hk2 : k ≤ l.length := by rw [← HLS.out]; exact hk
      by_cases hkl : k < l.length
      · obtain ⟨id, hid⟩ : ∃ id, ls[k]? = some id := ⟨ls[k]'(by rw [HLS.out]; exact hkl), List.getElem?_eq_getElem _⟩
        have okk : OkL (takeT S1.live (ls.take k)).2 := OKL.out.take _
        have c0 : wr.cell? ⟨g, k, none⟩ = some (.int .i64 id) := sl_cell hsv hid
        have c1 : wr.cell? ⟨q, 0, none⟩ = some (.pointer (some ⟨p, 0, none⟩)) := htk.rq.cell 0
        have c2 : wr.cell? ⟨p, 1028, none⟩ = some (.map (some m)) := by rw [htk.wh.row.cell (by omega), htk.wh.map]
        have c3 : wr.cell? ⟨r, 0, none⟩ = some vg' := htk.rr.cell 0
        have hput := takeT_succ S1.live ls k id hid
        have hlen : (takeT S1.live (ls.take k)).1.length ≤ k := Nat.le_trans (takeT_len _ _) (by simp; omega)
        have rlt := htk.rr.lt
        have qlt := htk.rq.lt
        have plt := htk.wh.row.lt
        have fr := htk.rr.free
        generalize takeT S1.live (ls.take k) = acc at *
        have TK := Lib.hid htk
        have SVK := Lib.hid hsv
        have OWN := Lib.hid hown
        have KP := Lib.hid hkeep
        have OKK := Lib.hid okk
        have HP := Lib.hid hput
        clear htk hsv hown hkeep okk hput
        by_cases hf : ∃ t ∈ acc.2, t.id = id
        · obtain ⟨t, ht, rfl⟩ := hf
          have hstep : stepT acc t.id = (acc.1 ++ [t.id], acc.2.filter (fun u => decide (u.id ≠ t.id))) := if_pos ⟨t, ht, rfl⟩
          have HST := Lib.hid hstep
          have hmem := Lib.hid (ents_mem ht)
          have huq := Lib.hid (OKK.out.uniq ht)
          clear ht hstep
          go_wp2_with (first
            | (at_lookup
               refine wp_look_some rfl _ _ rfl rfl TK.out.wh.mp OKK.out.ranged _ rfl _ hmem.out huq.out ?_)
            | (at_builtin
               refine wp_append_one' rfl _ _ rfl _ _ (wr.alloc (.cells #[.int .i64 (t.at_ : Int), .int .i64 t.what] 82)) (World.ownsRow.alloc TK.out.sg _) t.id rfl (wr.heap.size + 1) (by simp) rfl (by simp; omega) ?_
               intro A3 n3 d3 w3 a1 a2 a3
               have hk3 : ∀ x, x < wr.heap.size → vg'.ownBlock ≠ some x → w3.heap[x]? = wr.heap[x]? := fun x hx hne => (a2.block x (by simp; omega) (fun e => hne e.symm)).trans (Below.heap_alloc wr _ x hx)
               have hr3 : Row w3 r 29 #[vg'] := (hk3 r rlt (fun e => (TK.out.gqr e).2 rfl)).trans TK.out.rr
               have hq3 : Row w3 q 23 #[.pointer (some ⟨p, 0, none⟩)] := (hk3 q qlt (fun e => (TK.out.gqr e).1 rfl)).trans TK.out.rq
               have hw3 := TK.out.wh.same (w' := w3) (fun x hx => hk3 x (TK.out.wh.foot_lt hx) (fun e => TK.out.ng x e hx))
               have e1 : w3.cell? ⟨r, 0, none⟩ = some vg' := hr3.cell 0
               have e2 : w3.cell? ⟨q, 0, none⟩ = some (.pointer (some ⟨p, 0, none⟩)) := hq3.cell 0
               have e3 : w3.cell? ⟨p, 1028, none⟩ = some (.map (some m)) := by rw [hw3.row.cell (by omega), hw3.map]
               have fr3 := hr3.free
               have HW3 := Lib.hid hw3
               have HR3 := Lib.hid hr3
               have HQ3 := Lib.hid hq3
               have A1' := Lib.hid a1
               have A2' := Lib.hid a2
               have A3' := Lib.hid a3
               have HK3 := Lib.hid hk3
               clear hk3 hr3 hq3 hw3 a1 a2 a3)
            | (at_delete
               refine wp_map_drop rfl _ _ rfl rfl (HW3.out.far (a := ⟨r, 0, none⟩) H.out.nr (.slice A3 n3 d3)).mp OKK.out.ranged (ents_keys OKK.out.inc) _ rfl (OKK.out.ranged _ hmem.out) ?_
               intro w4 hm4 hg4))
          rw [ents_filter] at hm4
          have nrm : r ≠ m := fun e => H.out.nr (e ▸ .inr (.inl rfl))
          have nqm : q ≠ m := fun e => H.out.nq (e ▸ .inr (.inl rfl))
          have ngm : g ≠ m := nvg.1
          have hfin := (HW3.out.far (a := ⟨r, 0, none⟩) H.out.nr (.slice A3 n3 d3)).mapped hg4 hm4
          have hown3 : ∀ x, (Value.slice A3 n3 d3).ownBlock = some x → vg'.ownBlock = some x ∨ wr.heap.size < x := fun x hx => (A3'.out x hx).imp (fun h => h) (fun h => by simp at h; omega)
          have mlt := TK.out.wh.mp.lt
          have g3r : ∀ x, (Value.slice A3 n3 d3).ownBlock = some x → x ≠ r ∧ x ≠ m ∧ ¬ foot p m V x := fun x hx => by
            rcases hown3 x hx with h | h
            · exact ⟨(TK.out.gqr h).2, fun e => TK.out.ng x h (e ▸ .inr (.inl rfl)), TK.out.ng x h⟩
            · exact ⟨by omega, by omega, fun hf => by have := TK.out.wh.foot_lt hf; omega⟩
          have b4 : ∀ x, x < wr.heap.size → vg'.ownBlock ≠ some x → x ≠ r → x ≠ m → w4.heap[x]? = wr.heap[x]? := fun x hx h1 h2 h3 =>
            (hg4.block x (by have := A2'.out.size; simp at this ⊢; omega) (by simp; exact h3)).trans ((Below.heap_setCell w3 _ _ x h2).trans (HK3.out x hx h1))
          have hacc : takeT S1.live (ls.take (k + 1)) = (acc.1 ++ [t.id], acc.2.filter (fun u => decide (u.id ≠ t.id))) := by rw [HP.out, HST.out]
          have hgl : g < wr.heap.size := Nat.lt_of_lt_of_le hgv KP.out.size
          refine ⟨⟨k + 1, .slice A3 n3 d3, by rw [HLS.out]; omega, by go_num, ⟨?_, ?_, ?_, ?_, H.out.nq, H.out.nr, fun x hx => (g3r x hx).2.2⟩, ?_, ?_, ?_⟩, by simp [intOf]; omega⟩
          · rw [hacc]; exact hfin.1
          · exact (HQ3.out.far n2 _).grown hg4 (by simp; exact nqm)
          · exact (HR3.out.put 0 (.slice A3 n3 d3)).grown hg4 (by simp; exact nrm)
          · rw [hacc]
            show Sl w4 _ (G ++ (acc.1 ++ [t.id]))
            rw [← List.append_assoc]
            exact A1'.out.of_block (fun x hx => (hg4.block x (by simpa using A1'.out.lt hx) (by simp; exact (g3r x hx).2.1)).trans (Below.heap_setCell w3 _ _ x (g3r x hx).1))
          · exact SVK.out.of_block (fun x hx => by
              simp [Value.ownBlock] at hx; subst hx
              exact b4 _ hgl (fun e => (OWN.out _ e).1 rfl) gr ngm)
          · intro x hx
            rcases hown3 x hx with h | h
            · exact OWN.out x h
            · exact ⟨fun e => by simp [Value.ownBlock] at e; omega, .inr (by have := KP.out.size; omega)⟩
          · have K2 : Keep (fun x => x = m ∨ x = r ∨ vg'.ownBlock = some x) wr w4 :=
              ((((Keep.refl _ wr).alloc _).grown A2'.out (fun x hx _ => .inr (.inr hx))).setCell (fun _ => .inr (.inl rfl)) _).grown hg4 (fun x hx _ => .inl (by simpa using hx.symm))
            exact KP.out.trans K2 (fun x hx h => by
              rcases h with rfl | rfl | h
              · exact .inl (.inr (.inl rfl))
              · exact .inr (.inl rfl)
              · rcases (OWN.out x h).2 with h2 | h2
                · exact .inr (.inr (.inl h2))
                · omega)
        · have hstep : stepT acc id = acc := if_neg hf
          have HST := Lib.hid hstep
          have hno : Hid (∀ x ∈ ents acc.2, x.1 ≠ (id : Int)) := by
            intro x hx e
            obtain ⟨t, ht, rfl⟩ := List.mem_map.1 hx
            exact hf ⟨t, ht, by have : (t.id : Int) = id := e; omega⟩
          have hwf := wf_i64 (a := (id : Int)) (by omega) (by have := HB.out id (List.mem_of_getElem? hid); omega)
          clear hf hstep
          go_wp2_with (first
            | (at_lookup
               refine wp_look_none rfl _ _ rfl rfl TK.out.wh.mp OKK.out.ranged _ rfl hwf hno.out _ (zero82 _) ?_))
          have hacc : takeT S1.live (ls.take (k + 1)) = acc := by rw [HP.out, HST.out]
          have bb : ∀ x, x < wr.heap.size → (wr.alloc (.cells #[.int .i64 0, .int .i64 0] 82)).heap[x]? = wr.heap[x]? := fun x hx => Below.heap_alloc wr _ x hx
          exact ⟨⟨k + 1, vg', by rw [HLS.out]; omega, by go_num, by rw [hacc]; exact ⟨TK.out.wh.alloc _, TK.out.rq.alloc _, TK.out.rr.alloc _, World.ownsRow.alloc TK.out.sg _, H.out.nq, H.out.nr, TK.out.ng⟩, World.ownsRow.alloc SVK.out _, OWN.out, KP.out.alloc _⟩, by simp [intOf]; omega⟩
      · have e : k = ls.length := by rw [HLS.out]; omega
        subst e
        rw [List.take_length] at htk
        have hfin : RetTk w p m q r V S1 vg G (.slice (some ⟨g, 0, none⟩) l.length c) ls (.returned (.tuple #[])) wr :=
          ⟨rfl, vg', htk, fun x hx => (hown x hx).2.imp (fun h => h) (fun h => Nat.le_trans KK.out.size h), KK.out.trans hkeep (fun x _ h => h)⟩
        have HF := Lib.hid hfin
        have hkl' : ¬ ((ls.length : Nat) : Int) < (l.length : Int) := by omega
        clear htk hsv hown hkeep hfin
        go_wp2
        go_end0
        exact HF.out
end Go.Proofs.Ytlbdfhbkemikgaa

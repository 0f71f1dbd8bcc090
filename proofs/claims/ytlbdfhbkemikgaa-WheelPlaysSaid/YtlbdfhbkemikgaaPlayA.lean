/- WheelPlays: the wheel and the document's beside each other; what each call does to either. -/
import Derived.Test.YtlbdfhbkemikgaaRefG
set_option linter.unusedVariables false
set_option linter.unusedSimpArgs false
namespace Go.Proofs.Ytlbdfhbkemikgaa.wheelPlays
open Go.RowKit Plain wheelExpires

/-- what a wheel is, as data. -/
structure Ab where
  most : Nat
  now : Nat
  next : Nat
  live : List Tm

structure IsA (S : WS) (A : Ab) : Prop where
  most : S.most = A.most
  now : S.now = A.now
  next : S.next = A.next
  live : S.live = A.live

def Pl (w0 w : World) (p m b : Nat) (A B : Ab) : Prop :=
  ∃ V S v, St w0 w p m V S ∧ IsA S A ∧ RW w b v B.most B.now B.next B.live ∧ w0.heap.size ≤ b ∧ ∀ g, v.ownBlock = some g → w0.heap.size ≤ g

section
variable {w0 w w' : World} {p m b : Nat} {A B : Ab}

theorem Sl.two {w : World} {v : Value} {l : List Nat} (h : Sl w v l) {g : Nat} (hg : v.ownBlock = some g) : ∃ cs, w.heap[g]? = some (.cells cs 2 (0, 0)) := Sl.ty h hg

theorem apart {V : Nat → Value} {S : WS} {v : Value} {M now next : Nat} {L : List Tm} (h : Wh w p m V S) (hr : RW w b v M now next L) {k : Nat} (hk : foot p m V k) : ¬ footR b v k := by
  have hb := hr.row
  have ht : ∀ g, v.ownBlock = some g → ∃ cs, w.heap[g]? = some (.cells cs 57 (0, 0)) := fun g hg => hr.ts.ty hg
  obtain ⟨ds, hp, _⟩ := h.row
  obtain ⟨es, c, hm, _⟩ := h.mp
  unfold Row at hb hp
  rintro (rfl | hv)
  · rcases hk with rfl | rfl | ⟨j, hj, hg⟩
    · rw [hb] at hp; simp at hp
    · rw [hb] at hm; simp at hm
    · obtain ⟨cs, hc⟩ := (h.sl j hj).ty hg
      rw [hb] at hc; simp at hc
  · obtain ⟨xs, hx⟩ := ht k hv
    rcases hk with rfl | rfl | ⟨j, hj, hg⟩
    · rw [hx] at hp; simp at hp
    · rw [hx] at hm; simp at hm
    · obtain ⟨cs, hc⟩ := (h.sl j hj).ty hg
      rw [hx] at hc; simp at hc

theorem Pl.kept (h : Pl w0 w p m b A B) : Keep Nothing w0 w := by
  obtain ⟨V, S, v, h, _⟩ := h
  exact h.2.2.1
theorem Pl.keep (h : Pl w0 w p m b A B) (hk : Keep Nothing w w') : Pl w0 w' p m b A B := by
  obtain ⟨V, S, v, h, ha, hr, hb, ho⟩ := h
  exact ⟨V, S, v, h.keep hk, ha, hr.keep hk (fun _ _ h => h), hb, ho⟩
theorem Pl.facts (h : Pl w0 w p m b A B) : (ids A.live).Pairwise (· < ·) ∧ (∀ t ∈ A.live, A.now ≤ t.at_ ∧ t.at_ ≤ A.now + 1073741824 ∧ t.id < A.next) ∧ A.live.length ≤ A.next := by
  obtain ⟨V, S, v, h, ⟨e1, e2, e3, e4⟩, _⟩ := h
  have hm := h.2.2.2.mid
  rw [← e2, ← e3, ← e4]
  refine ⟨hm.inc, fun t ht => ⟨(hm.far t ht).1, (hm.far t ht).2, hm.lt_ t ht⟩, ?_⟩
  have := inc_len S.next (ids S.live) 0 hm.inc (fun x hx => by
    obtain ⟨t, ht, rfl⟩ := List.mem_map.1 hx
    exact ⟨Nat.zero_le _, hm.lt_ t ht⟩)
  simpa [ids] using this

/-- a step of the wheel's. -/
theorem stepA {V V' : Nat → Value} {S' : WS} {v : Value} {A' : Ab} (hr : RW w b v B.most B.now B.next B.live) (hb : w0.heap.size ≤ b) (ho : ∀ g, v.ownBlock = some g → w0.heap.size ≤ g) (hw : ∃ S, Wh w p m V S)
    (hst : St w0 w' p m V' S') (hs : Step p m w V w' V') (e : IsA S' A') : Pl w0 w' p m b A' B := by
  obtain ⟨S, hw⟩ := hw
  exact ⟨V', S', v, hst, e, hr.keep hs.keep (fun k hk hf => apart hw hr hf hk), hb, ho⟩

/-- a step of the document's. -/
theorem stepB {V : Nat → Value} {S : WS} {v v' : Value} {B' : Ab} (hst : St w0 w p m V S) (e : IsA S A) (hr : RW w b v B.most B.now B.next B.live) (hb : w0.heap.size ≤ b) (ho : ∀ g, v.ownBlock = some g → w0.heap.size ≤ g)
    (hr' : RW w' b v' B'.most B'.now B'.next B'.live) (hk : Keep (footR b v) w w') (ho' : ∀ g, v'.ownBlock = some g → v.ownBlock = some g ∨ w.heap.size ≤ g) : Pl w0 w' p m b A B' := by
  refine ⟨V, S, v', ⟨hst.1.keep hk (fun k hf => apart hst.1 hr hf), hst.2.1, hst.2.2.1.trans hk (fun k hl hf => ?_), hst.2.2.2⟩, e, hr', hb, fun g hg => ?_⟩
  · rcases hf with rfl | hv
    · omega
    · have := ho k hv; omega
  · rcases ho' g hg with h | h
    · exact ho g h
    · exact Nat.le_trans hst.2.2.1.size h
end

/-! ### what neither turns -/
def Fr (w w' : World) : Prop := ∀ (k : Nat) (cs : Array Value) (ty : TypeId), w.heap[k]? = some (Obj.cells cs ty (0, 0)) → ty ≠ 2 → ty ≠ 78 → ty ≠ 57 → ty ≠ 62 → w'.heap[k]? = w.heap[k]?
theorem Fr.of_keep {w w' : World} {F : Nat → Prop} (hk : Keep F w w') (hF : ∀ (k : Nat) (cs : Array Value) (ty : TypeId), F k → w.heap[k]? = some (Obj.cells cs ty (0, 0)) → ty = 2 ∨ ty = 78 ∨ ty = 57 ∨ ty = 62) : Fr w w' := fun k cs ty h h1 h2 h3 h4 =>
  hk.block k (Array.getElem?_eq_some_iff.1 h).1 (fun hf => by rcases hF k cs ty hf h with h | h | h | h <;> contradiction)
theorem Fr.nothing {w w' : World} (hk : Keep Nothing w w') : Fr w w' := .of_keep hk (fun _ _ _ h => h.elim)
theorem Fr.row {w w' : World} (h : Fr w w') {g : Nat} {ty : TypeId} {cs : Array Value} (hr : Row w g ty cs) (h1 : ty ≠ 2) (h2 : ty ≠ 78) (h3 : ty ≠ 57) (h4 : ty ≠ 62) : Row w' g ty cs := (h g cs ty hr h1 h2 h3 h4).trans hr
theorem Fr.wheel {w w' : World} {p m : Nat} {V : Nat → Value} {S : WS} (hw : Wh w p m V S) (hk : Keep (foot p m V) w w') : Fr w w' := .of_keep hk (fun k cs ty hf hb => by
  obtain ⟨ds, hp, _⟩ := hw.row
  obtain ⟨es, c, hm, _⟩ := hw.mp
  unfold Row at hp
  rcases hf with rfl | rfl | ⟨j, hj, hg⟩
  · rw [hp] at hb; injection hb with hb; injection hb with _ hb; exact .inr (.inl hb.symm)
  · rw [hm] at hb; simp at hb
  · obtain ⟨xs, hc⟩ := (hw.sl j hj).ty hg
    rw [hc] at hb; injection hb with hb; injection hb with _ hb; exact .inl hb.symm)
theorem Fr.refw {w w' : World} {b : Nat} {v : Value} {M now next : Nat} {L : List Tm} (hr : RW w b v M now next L) (hk : Keep (footR b v) w w') : Fr w w' := .of_keep hk (fun k cs ty hf hb => by
  rcases hf with rfl | hv
  · have := hr.row
    unfold Row at this
    rw [this] at hb; injection hb with hb; injection hb with _ hb; exact .inr (.inr (.inr hb.symm))
  · obtain ⟨xs, hx⟩ := hr.ts.ty hv
    rw [hx] at hb; injection hb with hb; injection hb with _ hb; exact .inr (.inr (.inl hb.symm)))

/-! ### errors -/
/-- a fault around a kind: what was done, at which number, the kind. None: no error. -/
abbrev Er := Option (ByteArray × Int × Int)
def ErrA (w : World) (v : Value) : Er → Prop
  | none => v = .nilIface
  | some (op, n, k) => ∃ g, v = .iface 97 (.pointer (some ⟨g, 0, none⟩)) ∧ Row w g 99 #[.string op, .int .i64 n, .iface 67 (.int .i64 k)] ∧ k ≠ 0
def ErrB (w : World) (v : Value) : Er → Prop
  | none => v = .pointer none
  | some (op, n, k) => ∃ g, v = .pointer (some ⟨g, 0, none⟩) ∧ XRow w g op n k
theorem ErrA.fr {w w' : World} {v : Value} {r : Er} (h : ErrA w v r) (hk : Fr w w') : ErrA w' v r := by
  cases r with
  | none => exact h
  | some x =>
    obtain ⟨op, n, k⟩ := x
    obtain ⟨g, e, hr, hk0⟩ := h
    exact ⟨g, e, hk.row hr (by decide) (by decide) (by decide) (by decide), hk0⟩
theorem ErrB.keep {w w' : World} {v : Value} {r : Er} (h : ErrB w v r) (hk : Keep Nothing w w') : ErrB w' v r := by
  cases r with
  | none => exact h
  | some x =>
    obtain ⟨op, n, k⟩ := x
    obtain ⟨g, e, hr⟩ := h
    exact ⟨g, e, hr.keep hk⟩
theorem ref_c (w : World) (a b : Value) (r : Er) (ha : ErrA w a r) (hb : ErrB w b r) : Calls Try.prog 21 #[a, b] w (RetB w) := by
  cases r with
  | none =>
    have e1 : a = .nilIface := ha
    have e2 : b = .pointer none := hb
    subst e1; subst e2
    exact ref_nil w
  | some x =>
    obtain ⟨op, n, k⟩ := x
    obtain ⟨g, rfl, hr, hk⟩ := ha
    obtain ⟨x, rfl, hx⟩ := hb
    exact ref_at w g x op n k hr hk hx

/-! ### Start -/
def StartRel (A : Ab) (n what : Int) (r : Er) (val : Int) (A' : Ab) : Prop :=
  ((n < 0 ∨ n > 1073741824) ∧ r = some ("start".toUTF8, n, 1) ∧ val = -1 ∧ A = A') ∨
  ((0 ≤ n ∧ n ≤ 1073741824 ∧ A.most ≤ A.live.length) ∧ r = some ("start".toUTF8, n, 2) ∧ val = -1 ∧ A = A') ∨
  ((0 ≤ n ∧ n ≤ 1073741824 ∧ A.live.length < A.most) ∧ r = none ∧ val = A.next ∧ A' = { A with next := A.next + 1, live := A.live ++ [⟨A.next, A.now + n.toNat, what⟩] })

theorem start_rel (A : Ab) (n what : Int) : ∃ r val A', StartRel A n what r val A' := by
  by_cases h1 : n < 0 ∨ n > 1073741824
  · exact ⟨_, _, _, .inl ⟨h1, rfl, rfl, rfl⟩⟩
  · by_cases h2 : A.most ≤ A.live.length
    · exact ⟨_, _, _, .inr (.inl ⟨by omega, rfl, rfl, rfl⟩)⟩
    · exact ⟨_, _, _, .inr (.inr ⟨by omega, rfl, rfl, rfl⟩)⟩

/-- in bounds. -/
structure Small (A : Ab) : Prop where
  most : A.most ≤ 4096
  now : A.now ≤ 4000000000
  next : A.next ≤ 4000

section
variable {w0 w : World} {p m b : Nat} {A B : Ab}

theorem start_a (h : Pl w0 w p m b A B) (sm : Small A) (n what : Int) (hn0 : -9223372036854775808 ≤ n) (hn1 : n ≤ 9223372036854775807) {r : Er} {val : Int} {A' : Ab} (hr : StartRel A n what r val A') :
    Calls Try.prog 12 #[.pointer (some ⟨p, 0, none⟩), .int .i64 n, .int .i64 what] w (fun e w' => ∃ err, e = .returned (.tuple #[.int .i64 val, err]) ∧ ErrA w' err r ∧ Pl w0 w' p m b A' B ∧ Fr w w') := by
  have hP := h
  have hL := h.facts.2.2
  obtain ⟨s1, s2, s3⟩ := sm
  obtain ⟨V, S, v, hst, ⟨e1, e2, e3, e4⟩, hrw, hb, ho⟩ := h
  rcases hr with ⟨c, rfl, rfl, rfl⟩ | ⟨c, rfl, rfl, rfl⟩ | ⟨c, rfl, rfl, rfl⟩
  · refine (start_bad w p n what c hn0 hn1).mono ?_
    rintro e w' ⟨g, rfl, _, hg, hk⟩
    exact ⟨_, rfl, ⟨g, rfl, hg, by decide⟩, hP.keep hk, .nothing hk⟩
  · refine (start_full w p m V S hst.1 n what c.1 c.2.1 (by rw [e1, e4]; exact c.2.2) (by rw [e4]; omega)).mono ?_
    rintro e w' ⟨g, rfl, _, hg, hk⟩
    exact ⟨_, rfl, ⟨g, rfl, hg, by decide⟩, hP.keep hk, .nothing hk⟩
  · have C := startSt hst (by omega) (by omega) n.toNat (by omega) what (by rw [e1, e4]; exact c.2.2) (by omega)
    rw [show ((n.toNat : Nat) : Int) = n by omega] at C
    refine C.mono ?_
    rintro e w' ⟨rfl, V', hst', hs⟩
    obtain ⟨f1, f2, f3, f4⟩ := startS_facts S n.toNat what
    exact ⟨_, by rw [e3], rfl, stepA hrw hb ho ⟨S, hst.1⟩ hst' hs ⟨by rw [f3]; exact e1, by rw [f1]; exact e2, by rw [f2, e3], by rw [f4, e2, e3, e4]⟩, .wheel hst.1 hs.keep⟩

theorem start_b (h : Pl w0 w p m b A B) (sm : Small B) (hL : B.live.length ≤ B.next) (n what : Int) (hn0 : -9223372036854775808 ≤ n) (hn1 : n ≤ 9223372036854775807) {r : Er} {val : Int} {B' : Ab} (hr : StartRel B n what r val B') :
    Calls Try.prog 22 #[.pointer (some ⟨b, 0, none⟩), .int .i64 n, .int .i64 what] w (fun e w' => ∃ err, e = .returned (.tuple #[.int .i64 val, err]) ∧ ErrB w' err r ∧ Pl w0 w' p m b A B' ∧ Fr w w') := by
  have hP := h
  obtain ⟨s1, s2, s3⟩ := sm
  obtain ⟨V, S, v, hst, ha, hrw, hb, ho⟩ := h
  rcases hr with ⟨c, rfl, rfl, rfl⟩ | ⟨c, rfl, rfl, rfl⟩ | ⟨c, rfl, rfl, rfl⟩
  · refine (rstart_bad w b n what c hn0 hn1).mono ?_
    rintro e w' ⟨g, rfl, hg, hk⟩
    exact ⟨_, rfl, ⟨g, rfl, hg⟩, hP.keep hk, .nothing hk⟩
  · refine (rstart_full w b v B.most B.now B.next B.live hrw (by omega) c.2.2 n what c.1 c.2.1).mono ?_
    rintro e w' ⟨g, rfl, hg, hk⟩
    exact ⟨_, rfl, ⟨g, rfl, hg⟩, hP.keep hk, .nothing hk⟩
  · have C := rstart_ok w b v B.most B.now B.next B.live hrw (by omega) c.2.2 n.toNat what (by omega) (by omega) (by omega) (by omega)
    rw [show ((n.toNat : Nat) : Int) = n by omega] at C
    refine C.mono ?_
    rintro e w' ⟨rfl, v', hr', hk, ho'⟩
    refine ⟨_, rfl, rfl, stepB hst ha hrw hb ho hr' hk ho', .refw hrw hk⟩

/-! ### Cancel, Left, What -/
def FindRel (A : Ab) (op : String) (k : Int) (r : Er) (o : Option Tm) : Prop :=
  (∃ t ∈ A.live, (t.id : Int) = k ∧ r = none ∧ o = some t) ∨ ((∀ t ∈ A.live, (t.id : Int) ≠ k) ∧ r = some (op.toUTF8, k % 2147483648, 3) ∧ o = none)
theorem find_rel (A : Ab) (op : String) (k : Int) : ∃ r o, FindRel A op k r o := by
  by_cases h : ∃ t ∈ A.live, (t.id : Int) = k
  · obtain ⟨t, h1, h2⟩ := h
    exact ⟨_, _, .inl ⟨t, h1, h2, rfl, rfl⟩⟩
  · exact ⟨_, _, .inr ⟨fun t ht e => h ⟨t, ht, e⟩, rfl, rfl⟩⟩
def leftOf (A : Ab) : Option Tm → Int
  | some t => (t.at_ : Int) - A.now
  | none => 0
def whatOf : Option Tm → Int
  | some t => t.what
  | none => 0
def dropOf (A : Ab) : Option Tm → Ab
  | some t => { A with live := A.live.filter (fun u => decide (u.id ≠ t.id)) }
  | none => A

theorem cancel_a (h : Pl w0 w p m b A B) (sm : Small A) (k : Int) (hk0 : -9223372036854775808 ≤ k) (hk1 : k ≤ 9223372036854775807) {r : Er} {o : Option Tm} (hr : FindRel A "cancel" k r o) :
    Calls Try.prog 18 #[.pointer (some ⟨p, 0, none⟩), .int .i64 k] w (fun e w' => ∃ err, e = .returned (.tuple #[.int .i64 (leftOf A o), err]) ∧ ErrA w' err r ∧ Pl w0 w' p m b (dropOf A o) B ∧ Fr w w') := by
  have hP := h
  obtain ⟨s1, s2, s3⟩ := sm
  obtain ⟨V, S, v, hst, ⟨e1, e2, e3, e4⟩, hrw, hb, ho⟩ := h
  rcases hr with ⟨t, ht, rfl, rfl, rfl⟩ | ⟨hno, rfl, rfl⟩
  · refine (cancel_some w p m V S hst.1 (hst.2.2.2.mid.ok (by omega) (by omega)) t (by rw [e4]; exact ht)).mono ?_
    rintro e w' ⟨rfl, V', hw', hs⟩
    exact ⟨_, by rw [e2]; rfl, rfl, stepA hrw hb ho ⟨S, hst.1⟩ (hst.step hw' hs (drop_rest hst.2.2.2 _)) hs ⟨e1, e2, e3, by show S.live.filter _ = _; rw [e4]; rfl⟩, .wheel hst.1 hs.keep⟩
  · refine (cancel_none w p m V S hst.1 (hst.2.2.2.mid.ok (by omega) (by omega)) k hk0 hk1 (by rw [e4]; exact hno)).mono ?_
    rintro e w' ⟨g, rfl, _, hg, hk⟩
    rw [and31 k hk0 hk1] at hg
    exact ⟨_, rfl, ⟨g, rfl, hg, by decide⟩, hP.keep hk, .nothing hk⟩

theorem left_a (h : Pl w0 w p m b A B) (sm : Small A) (k : Int) (hk0 : -9223372036854775808 ≤ k) (hk1 : k ≤ 9223372036854775807) {r : Er} {o : Option Tm} (hr : FindRel A "left" k r o) :
    Calls Try.prog 17 #[.pointer (some ⟨p, 0, none⟩), .int .i64 k] w (fun e w' => ∃ err, e = .returned (.tuple #[.int .i64 (leftOf A o), err]) ∧ ErrA w' err r ∧ Pl w0 w' p m b A B ∧ Fr w w') := by
  have hP := h
  obtain ⟨s1, s2, s3⟩ := sm
  obtain ⟨V, S, v, hst, ⟨e1, e2, e3, e4⟩, hrw, hb, ho⟩ := h
  rcases hr with ⟨t, ht, rfl, rfl, rfl⟩ | ⟨hno, rfl, rfl⟩
  · refine (left_some w p m V S hst.1 (hst.2.2.2.mid.ok (by omega) (by omega)) t (by rw [e4]; exact ht)).mono ?_
    rintro e w' ⟨rfl, hk⟩
    exact ⟨_, by rw [e2]; rfl, rfl, hP.keep hk, .nothing hk⟩
  · refine (left_none w p m V S hst.1 (hst.2.2.2.mid.ok (by omega) (by omega)) k hk0 hk1 (by rw [e4]; exact hno)).mono ?_
    rintro e w' ⟨g, rfl, _, hg, hk⟩
    rw [and31 k hk0 hk1] at hg
    exact ⟨_, rfl, ⟨g, rfl, hg, by decide⟩, hP.keep hk, .nothing hk⟩

theorem what_a (h : Pl w0 w p m b A B) (sm : Small A) (k : Int) (hk0 : -9223372036854775808 ≤ k) (hk1 : k ≤ 9223372036854775807) {r : Er} {o : Option Tm} (hr : FindRel A "what" k r o) :
    Calls Try.prog 19 #[.pointer (some ⟨p, 0, none⟩), .int .i64 k] w (fun e w' => ∃ err, e = .returned (.tuple #[.int .i64 (whatOf o), err]) ∧ ErrA w' err r ∧ Pl w0 w' p m b A B ∧ Fr w w') := by
  have hP := h
  obtain ⟨s1, s2, s3⟩ := sm
  obtain ⟨V, S, v, hst, ⟨e1, e2, e3, e4⟩, hrw, hb, ho⟩ := h
  rcases hr with ⟨t, ht, rfl, rfl, rfl⟩ | ⟨hno, rfl, rfl⟩
  · refine (what_some w p m V S hst.1 (hst.2.2.2.mid.ok (by omega) (by omega)) t (by rw [e4]; exact ht)).mono ?_
    rintro e w' ⟨rfl, hk⟩
    exact ⟨_, rfl, rfl, hP.keep hk, .nothing hk⟩
  · refine (what_none w p m V S hst.1 (hst.2.2.2.mid.ok (by omega) (by omega)) k hk0 hk1 (by rw [e4]; exact hno)).mono ?_
    rintro e w' ⟨g, rfl, _, hg, hk⟩
    rw [and31 k hk0 hk1] at hg
    exact ⟨_, rfl, ⟨g, rfl, hg, by decide⟩, hP.keep hk, .nothing hk⟩

/-- the document's side. -/
theorem cancel_b (h : Pl w0 w p m b A B) (sm : Small B) (hL : B.live.length ≤ B.next) (hi : (ids B.live).Pairwise (· < ·)) (hat : ∀ t ∈ B.live, t.at_ ≤ B.now + 1073741824) (k : Int) (hk0 : -9223372036854775808 ≤ k) (hk1 : k ≤ 9223372036854775807) {r : Er} {o : Option Tm} (hr : FindRel B "cancel" k r o) :
    Calls Try.prog 23 #[.pointer (some ⟨b, 0, none⟩), .int .i64 k] w (fun e w' => ∃ err, e = .returned (.tuple #[.int .i64 (leftOf B o), err]) ∧ ErrB w' err r ∧ Pl w0 w' p m b A (dropOf B o) ∧ Fr w w') := by
  have hP := h
  obtain ⟨s1, s2, s3⟩ := sm
  obtain ⟨V, S, v, hst, ha, hrw, hb, ho⟩ := h
  rcases hr with ⟨t, ht, rfl, rfl, rfl⟩ | ⟨hno, rfl, rfl⟩
  · obtain ⟨j, hj⟩ := List.getElem?_of_mem ht
    have := hat t ht
    refine (rcancel_some w b v B.most B.now B.next B.live hrw (by omega) hi j t hj (by omega) (by omega)).mono ?_
    rintro e w' ⟨rfl, v', hr', hk, ho'⟩
    refine ⟨_, rfl, rfl, stepB hst ha hrw hb ho hr' hk ho', .refw hrw hk⟩
  · refine (rcancel_none w b v B.most B.now B.next B.live hrw (by omega) k hk0 hk1 hno).mono ?_
    rintro e w' ⟨g, rfl, hg, hk⟩
    exact ⟨_, rfl, ⟨g, rfl, hg⟩, hP.keep hk, .nothing hk⟩

def aggOf : Option Tm → Value
  | some t => .agg #[.int .i64 (t.id : Int), .int .i64 (t.at_ : Int), .int .i64 t.what]
  | none => .agg #[.int .i64 0, .int .i64 0, .int .i64 0]

theorem get_b (h : Pl w0 w p m b A B) (sm : Small B) (hL : B.live.length ≤ B.next) (hi : (ids B.live).Pairwise (· < ·)) (op : String) (k : Int) (hk0 : -9223372036854775808 ≤ k) (hk1 : k ≤ 9223372036854775807) {r : Er} {o : Option Tm} (hr : FindRel B op k r o) :
    Calls Try.prog 24 #[.pointer (some ⟨b, 0, none⟩), .string op.toUTF8, .int .i64 k] w (fun e w' => ∃ err, e = .returned (.tuple #[aggOf o, err]) ∧ ErrB w' err r ∧ Pl w0 w' p m b A B ∧ Fr w w') := by
  have hP := h
  obtain ⟨s1, s2, s3⟩ := sm
  obtain ⟨V, S, v, hst, ha, hrw, hb, ho⟩ := h
  rcases hr with ⟨t, ht, rfl, rfl, rfl⟩ | ⟨hno, rfl, rfl⟩
  · obtain ⟨j, hj⟩ := List.getElem?_of_mem ht
    refine (get_some w b v B.most B.now B.next B.live hrw (by omega) hi j t hj op.toUTF8).mono ?_
    rintro e w' ⟨rfl, hk⟩
    exact ⟨_, rfl, rfl, hP.keep hk, .nothing hk⟩
  · refine (get_none w b v B.most B.now B.next B.live hrw (by omega) k hk0 hk1 hno op.toUTF8).mono ?_
    rintro e w' ⟨g, rfl, hg, hk⟩
    exact ⟨_, rfl, ⟨g, rfl, hg⟩, hP.keep hk, .nothing hk⟩

/-! ### Tick -/
def tickOf (A : Ab) (d : Nat) : Ab := { A with now := A.now + d, live := A.live.filter (fun t => decide (A.now + d < t.at_)) }

theorem tick_a (h : Pl w0 w p m b A B) (sm : Small A) (n : Int) (hn0 : -9223372036854775808 ≤ n) (hn1 : n ≤ 9223372036854775807) :
    Calls Try.prog 11 #[.pointer (some ⟨p, 0, none⟩), .int .i64 n] w (fun e w' => ∃ u, e = .returned u ∧ Sl w' u (expFrom A.live A.now (ticksOf n + 1)) ∧ Pl w0 w' p m b (tickOf A (ticksOf n)) B ∧ (∀ g, u.ownBlock = some g → w.heap.size ≤ g) ∧ Fr w w') := by
  obtain ⟨s1, s2, s3⟩ := sm
  obtain ⟨V, S, v, hst, ⟨e1, e2, e3, e4⟩, hrw, hb, ho⟩ := h
  refine (tickSt hst (by omega) (by omega) n hn0 hn1).mono ?_
  rintro e w' ⟨u, V', S', rfl, hst', ha, hs, hu, hou⟩
  rw [e4, e2] at hu
  exact ⟨u, rfl, hu, stepA hrw hb ho ⟨S, hst.1⟩ hst' hs ⟨by rw [ha.most]; exact e1, by rw [ha.now, e2]; rfl, by rw [ha.next]; exact e3, by rw [ha.live, e2, e4]; rfl⟩, fun g hg => (hou g hg).1, .wheel hst.1 hs.keep⟩

theorem tick_b (h : Pl w0 w p m b A B) (sm : Small B) (hL : B.live.length ≤ B.next) (hi : (ids B.live).Pairwise (· < ·)) (hat : ∀ t ∈ B.live, B.now ≤ t.at_ ∧ t.at_ ≤ B.now + 1073741824) (n : Int) (hn0 : -9223372036854775808 ≤ n) (hn1 : n ≤ 9223372036854775807) :
    Calls Try.prog 26 #[.pointer (some ⟨b, 0, none⟩), .int .i64 n] w (fun e w' => ∃ u, e = .returned u ∧ LT w' u (expT B.live B.now (ticksOf n + 1)) ∧ Pl w0 w' p m b A (tickOf B (ticksOf n)) ∧ Fr w w' ∧ ∀ x l, Sl w x l → Sl w' x l) := by
  obtain ⟨s1, s2, s3⟩ := sm
  obtain ⟨V, S, v, hst, ha, hrw, hb, ho⟩ := h
  refine (rtick_c w b v B.most B.now B.next B.live hrw (by omega) hi (fun t ht => by have := hat t ht; omega) (by omega) n hn0 hn1 (ticksOf n) (by unfold ticksOf; omega)).mono ?_
  rintro e w' ⟨u, v', rfl, hu, hr', hk, ou, ov⟩
  refine ⟨u, rfl, hu, stepB hst ha hrw hb ho hr' (hk.mono (fun k _ h => .inl h)) (fun g hg => .inr (ov g hg)), .refw hrw (hk.mono (fun k _ h => .inl h)), fun x l hx => hx.of_block (fun g hg => hk.block g (hx.lt hg) (fun e => ?_))⟩
  obtain ⟨cs, hc⟩ := hx.ty hg
  have := hrw.row
  unfold Row at this
  subst e
  rw [this] at hc
  simp at hc

/-! ### Now, Len -/
theorem now_a (h : Pl w0 w p m b A B) : Calls Try.prog 15 #[.pointer (some ⟨p, 0, none⟩)] w (fun e w' => e = .returned (.int .i64 (A.now : Int)) ∧ w' = w) := by
  obtain ⟨V, S, v, hst, ⟨e1, e2, e3, e4⟩, _⟩ := h
  have := now_c w p m V S hst.1
  rw [e2] at this
  exact this
theorem len_a (h : Pl w0 w p m b A B) : Calls Try.prog 16 #[.pointer (some ⟨p, 0, none⟩)] w (fun e w' => e = .returned (.int .i64 (A.live.length : Int)) ∧ w' = w) := by
  obtain ⟨V, S, v, hst, ⟨e1, e2, e3, e4⟩, _⟩ := h
  have := len_c w p m V S hst.1
  rw [e4] at this
  exact this
theorem Pl.cells (h : Pl w0 w p m b A B) : ∃ X c, w.cell? ⟨b, 1, none⟩ = some (.int .i64 (B.now : Int)) ∧ w.cell? ⟨b, 3, none⟩ = some (.slice X B.live.length c) := by
  obtain ⟨V, S, v, hst, _, hrw, _⟩ := h
  obtain ⟨X, c, rfl, _⟩ := hrw.ts.shape
  exact ⟨X, c, hrw.row.cell 1, hrw.row.cell 3⟩
end
end Go.Proofs.Ytlbdfhbkemikgaa.wheelPlays

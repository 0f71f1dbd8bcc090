/- The document's wheel in memory: a list of timers; K, f, low, New, find, Get. -/
import Derived.Test.YtlbdfhbkemikgaaWalkJ
import Derived.Test.YtlbdfhbkemikgaaLoose
set_option linter.unusedVariables false
set_option linter.unusedSimpArgs false
namespace Go.Proofs.Ytlbdfhbkemikgaa
open Go.RowKit Plain

def tc (t : Tm) : List Value := [.int .i64 (t.id : Int), .int .i64 (t.at_ : Int), .int .i64 t.what]
def tcs (l : List Tm) : List Value := l.flatMap tc
theorem tcs_len (l : List Tm) : (tcs l).length = l.length * 3 := by
  induction l with
  | nil => rfl
  | cons t l ih => simp [tcs, tc] at ih ⊢; omega
theorem tcs_append (l k : List Tm) : tcs (l ++ k) = tcs l ++ tcs k := List.flatMap_append
theorem tcs_take (l : List Tm) : ∀ k, (tcs l).take (k * 3) = tcs (l.take k) := by
  induction l with
  | nil => intro k; simp [tcs]
  | cons t l ih =>
    intro k
    cases k with
    | zero => simp [tcs]
    | succ k =>
      rw [show (k + 1) * 3 = k * 3 + 3 by omega]
      have := ih k
      simp only [tcs, List.flatMap_cons, tc, List.take_succ_cons, List.cons_append, List.nil_append] at this ⊢
      rw [this]
theorem tcs_drop (l : List Tm) : ∀ k, (tcs l).drop (k * 3) = tcs (l.drop k) := by
  induction l with
  | nil => intro k; simp [tcs]
  | cons t l ih =>
    intro k
    cases k with
    | zero => simp [tcs]
    | succ k =>
      rw [show (k + 1) * 3 = k * 3 + 3 by omega]
      have := ih k
      simp only [tcs, List.flatMap_cons, tc, List.drop_succ_cons, List.cons_append, List.nil_append] at this ⊢
      rw [this]
theorem tcs_get {l : List Tm} : ∀ {k : Nat} {t : Tm}, l[k]? = some t → (tcs l)[k * 3]? = some (.int .i64 (t.id : Int)) ∧ (tcs l)[k * 3 + 1]? = some (.int .i64 (t.at_ : Int)) ∧ (tcs l)[k * 3 + 2]? = some (.int .i64 t.what) := by
  intro k t h
  have hd := tcs_drop l k
  obtain ⟨hk, rfl⟩ := List.getElem?_eq_some_iff.1 h
  rw [List.drop_eq_getElem_cons hk] at hd
  have g : ∀ j, (tcs l)[k * 3 + j]? = (tcs (l[k] :: l.drop (k + 1)))[j]? := fun j => by rw [← hd, List.getElem?_drop]
  refine ⟨?_, ?_, ?_⟩
  · exact g 0
  · exact g 1
  · exact g 2
theorem tcs_one (l : List Tm) : ∀ u ∈ tcs l, u.oneCell' = true := by
  intro u hu
  obtain ⟨t, _, ht⟩ := List.mem_flatMap.1 hu
  simp [tc] at ht
  rcases ht with rfl | rfl | rfl <;> rfl

def LT (w : World) (v : Value) (L : List Tm) : Prop := LRow w 57 3 v L.length (tcs L)

structure RW (w : World) (b : Nat) (v : Value) (M now next : Nat) (L : List Tm) : Prop where
  row : Row w b 62 #[.int .i64 (M : Int), .int .i64 (now : Int), .int .i64 (next : Int), v]
  ts : LT w v L

theorem LT.nil (w : World) : LT w (.slice none 0 0) [] := LRow.nil w 57 3

/-- where the document's wheel lies. -/
def footR (b : Nat) (v : Value) (k : Nat) : Prop := k = b ∨ v.ownBlock = some k

theorem RW.ne {w : World} {b : Nat} {v : Value} {M now next : Nat} {L : List Tm} (h : RW w b v M now next L) {g : Nat} (hg : v.ownBlock = some g) : g ≠ b := by
  intro e
  subst e
  obtain ⟨cs, hc⟩ := h.ts.ty hg
  have := h.row
  unfold Row at this
  rw [this] at hc
  simp at hc
theorem RW.foot_lt {w : World} {b : Nat} {v : Value} {M now next : Nat} {L : List Tm} (h : RW w b v M now next L) {k : Nat} (hk : footR b v k) : k < w.heap.size := by
  rcases hk with rfl | hk
  · exact h.row.lt
  · exact h.ts.lt hk
theorem RW.same {w w' : World} {b : Nat} {v : Value} {M now next : Nat} {L : List Tm} (h : RW w b v M now next L) (e : ∀ k, footR b v k → w'.heap[k]? = w.heap[k]?) : RW w' b v M now next L :=
  ⟨(e b (.inl rfl)).trans h.row, h.ts.of_block (fun g hg => e g (.inr hg))⟩
theorem RW.keep {w w' : World} {F : Nat → Prop} {b : Nat} {v : Value} {M now next : Nat} {L : List Tm} (h : RW w b v M now next L) (hk : Keep F w w') (hF : ∀ k, footR b v k → ¬ F k) : RW w' b v M now next L :=
  h.same (fun k hf => hk.block k (h.foot_lt hf) (hF k hf))

/-! ### errors of the document's -/
def XRow (w : World) (g : Nat) (op : ByteArray) (n k : Int) : Prop := ∃ h, Row w g 107 #[.string op, .int .i64 n, .pointer (some ⟨h, 0, none⟩), .int .i64 0] ∧ Row w h 107 #[.string ⟨#[]⟩, .int .i64 0, .pointer none, .int .i64 k]
theorem XRow.keep {w w' : World} {g : Nat} {op : ByteArray} {n k : Int} (h : XRow w g op n k) (hk : Keep Nothing w w') : XRow w' g op n k := by
  obtain ⟨x, h1, h2⟩ := h
  exact ⟨x, h1.keep hk (fun h => h), h2.keep hk (fun h => h)⟩

def RetX (w : World) (x : Value → Value) (op : ByteArray) (n k : Int) (e : Ending) (w' : World) : Prop :=
  ∃ g, e = .returned (x (.pointer (some ⟨g, 0, none⟩))) ∧ XRow w' g op n k ∧ Keep Nothing w w'

theorem k_c (k : Int) (w : World) : Calls Try.prog 36 #[.int .i64 k] w fun e w' => ∃ g, e = .returned (.pointer (some ⟨g, 0, none⟩)) ∧ w.heap.size ≤ g ∧ Row w' g 107 #[.string ⟨#[]⟩, .int .i64 0, .pointer none, .int .i64 k] ∧ Keep Nothing w w' := by
  go_enter Try.func36, Try.ntmps36
  go_wp2_with fail
  go_ret
  exact ⟨_, rfl, Nat.le_refl _, Row.new _ _ _, (Keep.refl _ _).alloc _⟩

theorem f_c (op : ByteArray) (n : Int) (g : Nat) (w : World) : Calls Try.prog 35 #[.string op, .int .i64 n, .pointer (some ⟨g, 0, none⟩)] w fun e w' => ∃ h, e = .returned (.pointer (some ⟨h, 0, none⟩)) ∧ Row w' h 107 #[.string op, .int .i64 n, .pointer (some ⟨g, 0, none⟩), .int .i64 0] ∧ Keep Nothing w w' := by
  go_enter Try.func35, Try.ntmps35
  go_wp2_with fail
  go_ret
  exact ⟨_, rfl, Row.new _ _ _, (Keep.refl _ _).alloc _⟩

theorem low_c (k : Int) (w : World) (hk0 : -9223372036854775808 ≤ k) (hk1 : k ≤ 9223372036854775807) : Calls Try.prog 41 #[.int .i64 k] w fun e w' => e = .returned (.int .i64 (k % 2147483648)) ∧ w' = w := by
  go_enter Try.func41, Try.ntmps41
  go_wp2_with fail
  go_ret
  refine ⟨?_, rfl⟩
  have e1 : IntKind.u64.wrap k = k % 18446744073709551616 := by simp [IntKind.wrap, IntKind.bits, IntKind.signed]
  have e2 : (k % 18446744073709551616).tmod 2147483648 = k % 2147483648 := by
    rw [Int.tmod_eq_emod_of_nonneg (by omega)]; omega
  rw [e1, e2]
  have e3 : RowKit.wrap64 (k % 2147483648) = k % 2147483648 := by unfold RowKit.wrap64; omega
  show Ending.returned (.int .i64 (RowKit.wrap64 (k % 2147483648))) = _
  rw [e3]

theorem and31 (k : Int) (hk0 : -9223372036854775808 ≤ k) (hk1 : k ≤ 9223372036854775807) : bits .and .i64 k 2147483647 = k % 2147483648 := by
  simp only [bits, BitVec.toNat_and, BitVec.toNat_ofInt]
  have h2 : ((2147483647 : Int) % ((2 ^ IntKind.i64.bits : Nat) : Int)).toNat = 2 ^ 31 - 1 := by decide
  have h3 : ((2 ^ IntKind.i64.bits : Nat) : Int) = 18446744073709551616 := by decide
  rw [h2, Nat.and_two_pow_sub_one_eq_mod, IntKind.wrap_i64, h3]
  omega

set_option maxHeartbeats 1000000 in
theorem new_ref (w : World) (n : Int) (hn : 1 ≤ n) (hn1 : n ≤ 4096) :
    Calls Try.prog 20 #[.int .i64 n] w fun e w' => ∃ b, e = .returned (.tuple #[.pointer (some ⟨b, 0, none⟩), .pointer none]) ∧ w.heap.size ≤ b ∧ RW w' b (.slice none 0 0) n.toNat 0 0 [] ∧ Keep Nothing w w' := by
  have d1 : decide (n < 1) = false := decide_eq_false (by omega)
  have d2 : decide (n > 4096) = false := decide_eq_false (by omega)
  go_enter Try.func20, Try.ntmps20
  go_wp2_with fail
  go_ret2
  refine ⟨_, rfl, Nat.le_refl _, ⟨?_, LT.nil _⟩, (Keep.refl _ _).alloc _⟩
  rw [show ((n.toNat : Nat) : Int) = n by omega]
  exact Row.new _ _ _

set_option maxHeartbeats 1000000 in
theorem new_ref_bad (w : World) (n : Int) (hn : n < 1 ∨ n > 4096) (hn0 : -9223372036854775808 ≤ n) (hn1 : n ≤ 9223372036854775807) :
    Calls Try.prog 20 #[.int .i64 n] w (RetX w (fun e => .tuple #[.pointer none, e]) "wheel".toUTF8 n 1) := by
  have con1 := Lib.hid (fun w => k_c 1 w)
  have con2 := Lib.hid (fun g w => f_c "wheel".toUTF8 n g w)
  by_cases c : n < 1
  · have d1 : decide (n < 1) = true := decide_eq_true c
    go_enter Try.func20, Try.ntmps20
    go_wp2_with fail
    refine (con1.out _).mono ?_
    rintro e w1 ⟨g, rfl, hg, hr, hk⟩
    have R1 := Lib.hid hr
    have K1 := Lib.hid hk
    clear hr hk hg
    go_wp2_with fail
    refine (con2.out _ _).mono ?_
    rintro e w2 ⟨h, rfl, hr, hk⟩
    have R2 := Lib.hid hr
    have K2 := Lib.hid hk
    clear hr hk
    go_wp2_with fail
    go_ret2
    exact ⟨h, rfl, ⟨g, R2.out, R1.out.keep K2.out (fun h => h)⟩, K1.out.trans K2.out (fun _ _ h => h)⟩
  · have d1 : decide (n < 1) = false := decide_eq_false c
    have d2 : decide (n > 4096) = true := decide_eq_true (by omega)
    go_enter Try.func20, Try.ntmps20
    go_wp2_with fail
    refine (con1.out _).mono ?_
    rintro e w1 ⟨g, rfl, hg, hr, hk⟩
    have R1 := Lib.hid hr
    have K1 := Lib.hid hk
    clear hr hk hg
    go_wp2_with fail
    refine (con2.out _ _).mono ?_
    rintro e w2 ⟨h, rfl, hr, hk⟩
    have R2 := Lib.hid hr
    have K2 := Lib.hid hk
    clear hr hk
    go_wp2_with fail
    go_ret2
    exact ⟨h, rfl, ⟨g, R2.out, R1.out.keep K2.out (fun h => h)⟩, K1.out.trans K2.out (fun _ _ h => h)⟩

/-! ### find, Get -/
/-- at which place a timer stands. -/
def placeOf (L : List Tm) (k : Int) : Int := match L.findIdx? (fun t => decide ((t.id : Int) = k)) with | some i => (i : Int) | none => -1

set_option maxHeartbeats 1000000 in
set_option maxRecDepth 100000 in
theorem find_c (w : World) (b : Nat) (v : Value) (M now next : Nat) (L : List Tm) (h : RW w b v M now next L) (hL : L.length < 1000000000000) (k : Int) (j : Nat) (hj : j ≤ L.length) (hlt : ∀ i t, i < j → L[i]? = some t → (t.id : Int) ≠ k) (hat : j < L.length → ∃ t, L[j]? = some t ∧ (t.id : Int) = k) :
    Calls Try.prog 40 #[.pointer (some ⟨b, 0, none⟩), .int .i64 k] w fun e w' => e = .returned (.int .i64 (if j < L.length then (j : Int) else -1)) ∧ w' = w := by
  have H := Lib.hid h
  have HLT := Lib.hid hlt
  have HAT := Lib.hid hat
  obtain ⟨A, c, rfl, hc1, hc2, _, _, hp⟩ := h.ts.shape
  have HP := Lib.hid hp
  have k3 : w.cell? ⟨b, 3, none⟩ = some (.slice A L.length c) := H.out.row.cell 3
  clear h hlt hat hp
  go_enter Try.func40, Try.ntmps40
  go_wp2_with fail
  go_loopw [5] (fun i wr => ∃ q : Nat, q ≤ j ∧ i = .int .i64 (q : Int) ∧ wr = w) (fun i _ => L.length - (intOf i).toNat)
  case atStart => exact ⟨0, Nat.zero_le _, rfl, rfl⟩
  case round =>
    obtain ⟨q, hq, rfl, rfl⟩ := hrel
    by_cases hql : q < L.length
    · obtain ⟨g, rfl⟩ := HP.out (by omega)
      obtain ⟨t, ht⟩ : ∃ t, L[q]? = some t := ⟨_, List.getElem?_eq_getElem hql⟩
      have hc : wr.cell? ⟨g, q * 3, none⟩ = some (.int .i64 (t.id : Int)) := H.out.ts.cell (tcs_get ht).1
      by_cases hqj : q < j
      · have hne := HLT.out q t hqj ht
        have d1 : ((t.id : Int) == k) = false := beq_eq_false_iff_ne.2 hne
        clear ht hne
        go_wp2_with fail
        exact ⟨⟨q + 1, by omega, by go_num, trivial⟩, by simp [intOf]; omega⟩
      · obtain rfl : q = j := by omega
        obtain ⟨t', ht', hid⟩ := HAT.out hql
        have e1 : t = t' := by rw [ht] at ht'; injection ht'
        subst e1
        have d1 : ((t.id : Int) == k) = true := beq_iff_eq.2 hid
        have FIN : Hid ((if q < L.length then (q : Int) else -1) = q) := if_pos hql
        clear ht ht' hid
        go_wp2_with fail
        go_ret
        all_goals first | exact ⟨rfl, rfl⟩ | omega
    · have FIN : Hid ((if j < L.length then (j : Int) else -1) = -1) := if_neg (by omega)
      go_wp2_with fail
      go_ret
      all_goals first | exact ⟨rfl, rfl⟩ | omega
end Go.Proofs.Ytlbdfhbkemikgaa

/- Plain laws of a wheel of wheels: timers in slots, ticks, who expires. No program here. -/
set_option linter.unusedVariables false
set_option linter.unusedSimpArgs false
namespace Go.Proofs.Ytlbdfhbkemikgaa.Plain

/-- a timer. -/
structure Tm where
  id : Nat
  at_ : Nat
  what : Int

/-- a wheel: its slots are 1024: years, days, hours, ticks. -/
structure WS where
  now : Nat
  next : Nat
  most : Nat
  live : List Tm
  due : List Nat
  slot : Nat → List Nat
  m0 : Int
  m1 : Int
  m2 : Int

def upd (f : Nat → List Nat) (j : Nat) (l : List Nat) : Nat → List Nat := fun i => if i = j then l else f i

/-- where a timer that expires at 'a' is put at 'now'. -/
def place (now a : Nat) : Nat :=
  if a < now + 256 then 768 + a % 256
  else if a < now + 65536 then 512 + a / 256 % 256
  else if a < now + 16777216 then 256 + a / 65536 % 256
  else a / 16777216 % 256

def put (S : WS) (id a : Nat) : WS :=
  { S with slot := upd S.slot (place S.now a) (S.slot (place S.now a) ++ [id])
           m0 := if a < S.now + 256 then S.m0 + 1 else S.m0
           m1 := if a < S.now + 256 then S.m1 else if a < S.now + 65536 then S.m1 + 1 else S.m1
           m2 := if a < S.now + 65536 then S.m2 else if a < S.now + 16777216 then S.m2 + 1 else S.m2 }

/-- a slot fits a timer that expires at 'a'. -/
def Fits (now a j : Nat) : Prop :=
  (j = 768 + a % 256 ∧ now < a ∧ a < now + 256) ∨ (j = 512 + a / 256 % 256 ∧ now / 256 < a / 256 ∧ a / 256 ≤ now / 256 + 256) ∨
  (j = 256 + a / 65536 % 256 ∧ now / 65536 < a / 65536 ∧ a / 65536 ≤ now / 65536 + 256) ∨
  (j = a / 16777216 % 256 ∧ now / 16777216 < a / 16777216 ∧ a / 16777216 < now / 16777216 + 256)

theorem fits_lt {now a j : Nat} (h : Fits now a j) : j < 1024 := by
  rcases h with ⟨h, _⟩ | ⟨h, _⟩ | ⟨h, _⟩ | ⟨h, _⟩ <;> omega

theorem fits_later {now a j : Nat} (h : Fits now a j) : now < a := by
  rcases h with ⟨_, h, _⟩ | ⟨_, h, _⟩ | ⟨_, h, _⟩ | ⟨_, h, _⟩ <;> omega

theorem place_fits {now a : Nat} (h1 : now < a) (h2 : a ≤ now + 1073741824) : Fits now a (place now a) := by
  unfold place Fits
  split
  · exact .inl ⟨rfl, h1, by omega⟩
  · split
    · exact .inr (.inl ⟨rfl, by omega, by omega⟩)
    · split
      · exact .inr (.inr (.inl ⟨rfl, by omega, by omega⟩))
      · exact .inr (.inr (.inr ⟨rfl, by omega, by omega⟩))

/-- how many stand in the slots from 'b' on. -/
def many (f : Nat → List Nat) (b : Nat) : Nat → Nat
  | 0 => 0
  | k + 1 => many f b k + (f (b + k)).length

theorem many_upd_out {f : Nat → List Nat} {b j : Nat} {l : List Nat} : ∀ k, (j < b ∨ b + k ≤ j) → many (upd f j l) b k = many f b k
  | 0, _ => rfl
  | k + 1, h => by
    rw [many, many, many_upd_out k (by omega)]
    congr 2
    unfold upd
    rw [if_neg (by omega)]

theorem many_upd_in {f : Nat → List Nat} {b j : Nat} {l : List Nat} : ∀ k, b ≤ j → j < b + k → many (upd f j l) b k + (f j).length = many f b k + l.length
  | 0, h1, h2 => by omega
  | k + 1, h1, h2 => by
    rw [many, many]
    by_cases e : j = b + k
    · subst e
      rw [many_upd_out k (by omega)]
      have : upd f (b + k) l (b + k) = l := by unfold upd; rw [if_pos rfl]
      rw [this]; omega
    · have := many_upd_in (f := f) (l := l) k h1 (by omega)
      have e2 : upd f j l (b + k) = f (b + k) := by unfold upd; rw [if_neg (by omega)]
      rw [e2]; omega

theorem many_zero {f : Nat → List Nat} {b : Nat} : ∀ k, many f b k = 0 → ∀ j, b ≤ j → j < b + k → f j = []
  | 0, _, j, h1, h2 => by omega
  | k + 1, h, j, h1, h2 => by
    rw [many] at h
    by_cases e : j = b + k
    · subst e; exact List.eq_nil_of_length_eq_zero (by omega)
    · exact many_zero k (by omega) j h1 (by omega)

def ids (l : List Tm) : List Nat := l.map (·.id)

/-- what holds of a wheel between calls. 'T': what 'now' is, for the slots (in the midst of a tick it may be ahead). -/
structure Inv (S : WS) : Prop where
  inc : (ids S.live).Pairwise (· < ·)
  lt_ : ∀ t ∈ S.live, t.id < S.next
  len : S.live.length ≤ S.most
  fit : ∀ j, j < 1024 → ∀ id ∈ S.slot j, ∀ t ∈ S.live, t.id = id → Fits S.now t.at_ j
  has : ∀ t ∈ S.live, t.id ∉ S.due → ∃ j, j < 1024 ∧ t.id ∈ S.slot j
  due_ : ∀ t ∈ S.live, t.id ∈ S.due → t.at_ = S.now
  slt : ∀ j, j < 1024 → ∀ id ∈ S.slot j, id < S.next
  dlt : ∀ id ∈ S.due, id < S.next
  c0 : S.m0 = many S.slot 768 256
  c1 : S.m1 = many S.slot 512 256
  c2 : S.m2 = many S.slot 256 256

/-- 'put' keeps the counts. -/
theorem put_counts {S : WS} {id a : Nat} (h0 : S.m0 = many S.slot 768 256) (h1 : S.m1 = many S.slot 512 256) (h2 : S.m2 = many S.slot 256 256) :
    (put S id a).m0 = many (put S id a).slot 768 256 ∧ (put S id a).m1 = many (put S id a).slot 512 256 ∧ (put S id a).m2 = many (put S id a).slot 256 256 := by
  unfold put place
  simp only []
  have hl : ∀ j, (S.slot j ++ [id]).length = (S.slot j).length + 1 := fun j => by simp
  by_cases c0 : a < S.now + 256
  · simp only [if_pos c0, if_pos (show a < S.now + 65536 by omega)]
    have e0 := many_upd_in (f := S.slot) (b := 768) (j := 768 + a % 256) (l := S.slot (768 + a % 256) ++ [id]) 256 (by omega) (by omega)
    have e1 := many_upd_out (f := S.slot) (b := 512) (j := 768 + a % 256) (l := S.slot (768 + a % 256) ++ [id]) 256 (by omega)
    have e2 := many_upd_out (f := S.slot) (b := 256) (j := 768 + a % 256) (l := S.slot (768 + a % 256) ++ [id]) 256 (by omega)
    rw [hl] at e0
    rw [e1, e2]
    exact ⟨by omega, h1, h2⟩
  · simp only [if_neg c0]
    by_cases c1 : a < S.now + 65536
    · simp only [if_pos c1]
      have e0 := many_upd_out (f := S.slot) (b := 768) (j := 512 + a / 256 % 256) (l := S.slot (512 + a / 256 % 256) ++ [id]) 256 (by omega)
      have e1 := many_upd_in (f := S.slot) (b := 512) (j := 512 + a / 256 % 256) (l := S.slot (512 + a / 256 % 256) ++ [id]) 256 (by omega) (by omega)
      have e2 := many_upd_out (f := S.slot) (b := 256) (j := 512 + a / 256 % 256) (l := S.slot (512 + a / 256 % 256) ++ [id]) 256 (by omega)
      rw [hl] at e1
      rw [e0, e2]
      exact ⟨h0, by omega, h2⟩
    · simp only [if_neg c1]
      by_cases c2 : a < S.now + 16777216
      · simp only [if_pos c2]
        have e0 := many_upd_out (f := S.slot) (b := 768) (j := 256 + a / 65536 % 256) (l := S.slot (256 + a / 65536 % 256) ++ [id]) 256 (by omega)
        have e1 := many_upd_out (f := S.slot) (b := 512) (j := 256 + a / 65536 % 256) (l := S.slot (256 + a / 65536 % 256) ++ [id]) 256 (by omega)
        have e2 := many_upd_in (f := S.slot) (b := 256) (j := 256 + a / 65536 % 256) (l := S.slot (256 + a / 65536 % 256) ++ [id]) 256 (by omega) (by omega)
        rw [hl] at e2
        rw [e0, e1]
        exact ⟨h0, h1, by omega⟩
      · simp only [if_neg c2]
        rw [many_upd_out 256 (by omega), many_upd_out 256 (by omega), many_upd_out 256 (by omega)]
        exact ⟨h0, h1, h2⟩

end Go.Proofs.Ytlbdfhbkemikgaa.Plain

/- Plain: who expires in a tick; ticks that are skipped; starts and cancels keep the order. -/
import Derived.Test.YtlbdfhbkemikgaaTicksB
set_option linter.unusedVariables false
set_option linter.unusedSimpArgs false
namespace Go.Proofs.Ytlbdfhbkemikgaa
open Plain

theorem last_iff {S M : WS} (h : Moved S M) (hd : S.due = []) {t : Tm} (ht : t ∈ M.live) : t.id ∈ lastL M ↔ t.at_ = S.now + 1 := by
  obtain ⟨hm, hn, _, _, _, hdue⟩ := h
  unfold lastL
  rw [hn]
  constructor
  · intro hid
    have hf := hm.fit (768 + (S.now + 1) % 256) (by omega) t ht hid
    unfold FitE at hf
    rcases hf with ⟨h0, h1, h2⟩ | ⟨h0, h1, h2⟩ | ⟨h0, h1, h2⟩ | ⟨h0, h1, h2⟩ <;> omega
  · intro ha
    obtain ⟨j, hj, hid⟩ := hm.has t ht (by rw [hdue, hd]; simp)
    have hf := hm.fit j hj t ht hid
    rw [ha] at hf
    unfold FitE at hf
    have : j = 768 + (S.now + 1) % 256 := by rcases hf with ⟨h0, h1, h2⟩ | ⟨h0, h1, h2⟩ | ⟨h0, h1, h2⟩ | ⟨h0, h1, h2⟩ <;> omega
    rw [← this]; exact hid

/-- the wheel behind a tick. -/
def doneS (M : WS) : WS := { lastS M with live := M.live.filter (fun t => decide (t.id ∉ lastL M)) }

theorem fits_of {n a j : Nat} (h : FitE n 0 0 0 a j) (ha : a ≠ n) : Fits n a j := by
  unfold FitE at h; unfold Fits
  rcases h with ⟨h0, h1, h2⟩ | ⟨h0, h1, h2⟩ | ⟨h0, h1, h2⟩ | ⟨h0, h1, h2⟩
  · exact .inl ⟨h0, by omega, h2⟩
  · exact .inr (.inl ⟨h0, by omega, by omega⟩)
  · exact .inr (.inr (.inl ⟨h0, by omega, by omega⟩))
  · exact .inr (.inr (.inr ⟨h0, by omega, by omega⟩))

theorem done_calm {S M : WS} (h : Moved S M) (hd : S.due = []) : Calm (doneS M) := by
  have hiff := fun {t : Tm} (ht : t ∈ M.live) => last_iff h hd ht
  obtain ⟨hm, hn, hx, hmo, hl, hdue⟩ := h
  have hj : 768 + M.now % 256 < 1024 := by omega
  have hsub : ∀ t ∈ (doneS M).live, t ∈ M.live ∧ t.at_ ≠ S.now + 1 := fun t ht => by
    obtain ⟨h1, h2⟩ := List.mem_filter.1 ht
    simp only [decide_eq_true_eq] at h2
    exact ⟨h1, fun e => h2 ((hiff h1).2 e)⟩
  have hslot : ∀ j id, id ∈ (doneS M).slot j → id ∈ M.slot j ∧ j ≠ 768 + M.now % 256 := fun j id hid => by
    have h' : id ∈ upd M.slot (768 + M.now % 256) [] j := hid
    unfold upd at h'
    split at h'
    · simp at h'
    · exact ⟨h', by assumption⟩
  have eC := hm.cnt
  refine ⟨⟨?_, fun t ht => hm.lt_ t (hsub t ht).1, fun t ht => hm.far t (hsub t ht).1, ?_, ?_, fun j hj id hid => hm.slt j hj id (hslot j id hid).1, hm.dlt, ⟨?_, ?_, ?_⟩, ?_⟩, by show M.due = []; rw [hdue, hd]⟩
  · exact hm.inc.sublist ((List.filter_sublist).map _)
  · intro j hj t ht hid
    have := fits_of (hm.fit j hj t (hsub t ht).1 (hslot j _ hid).1) (hsub t ht).2
    show Fits M.now t.at_ j
    rw [hn]; exact this
  · intro t ht _
    obtain ⟨j, hj, hid⟩ := hm.has t (hsub t ht).1 (by rw [hdue, hd]; simp)
    refine ⟨j, hj, ?_⟩
    show t.id ∈ upd M.slot (768 + M.now % 256) [] j
    unfold upd
    rw [if_neg]
    · exact hid
    · intro e
      subst e
      exact (hsub t ht).2 ((hiff (hsub t ht).1).1 hid)
  · have e := many_upd_in (f := M.slot) (b := 768) (j := 768 + M.now % 256) (l := []) 256 (by omega) (by omega)
    show M.m0 - _ = ((many (upd M.slot (768 + M.now % 256) []) 768 256 : Nat) : Int)
    have := eC.c0
    simp at e
    omega
  · have e := many_upd_out (f := M.slot) (b := 512) (j := 768 + M.now % 256) (l := []) 256 (by omega)
    show M.m1 = ((many (upd M.slot (768 + M.now % 256) []) 512 256 : Nat) : Int)
    rw [e]; exact eC.c1
  · have e := many_upd_out (f := M.slot) (b := 256) (j := 768 + M.now % 256) (l := []) 256 (by omega)
    show M.m2 = ((many (upd M.slot (768 + M.now % 256) []) 256 256 : Nat) : Int)
    rw [e]; exact eC.c2
  · have e := many_upd_in (f := M.slot) (b := 0) (j := 768 + M.now % 256) (l := []) 1024 (by omega) (by omega)
    have h4 := hm.tot
    unfold Ytlbdfhbkemikgaa.tot at h4
    show many (upd M.slot (768 + M.now % 256) []) 0 1024 + M.due.length ≤ M.next
    simp at e
    omega

theorem done_live {S M : WS} (h : Moved S M) (hd : S.due = []) : (doneS M).live = S.live.filter (fun t => decide (t.at_ ≠ S.now + 1)) ∧
    ids (M.live.filter (fun t => decide (t.id ∈ lastL M))) = ids (S.live.filter (fun t => decide (t.at_ = S.now + 1))) := by
  have hiff := fun {t : Tm} (ht : t ∈ M.live) => last_iff h hd ht
  obtain ⟨hm, hn, hx, hmo, hl, hdue⟩ := h
  rw [← hl]
  refine ⟨List.filter_congr (fun t ht => ?_), congrArg ids (List.filter_congr (fun t ht => ?_))⟩
  · exact decide_eq_decide.2 (not_congr (hiff ht))
  · exact decide_eq_decide.2 (hiff ht)

/-- between calls. -/
structure Rest (S : WS) : Prop where
  mid : Mid S (Fits S.now)
  due_ : ∀ t ∈ S.live, t.id ∈ S.due → t.at_ = S.now

theorem Calm.rest {S : WS} (h : Calm S) : Rest S := ⟨h.1, fun t _ hd => by rw [h.2] at hd; simp at hd⟩

theorem Rest.due_iff {S : WS} (h : Rest S) {t : Tm} (ht : t ∈ S.live) : t.id ∈ S.due ↔ t.at_ = S.now := by
  refine ⟨h.due_ t ht, fun e => Classical.byContradiction fun hd => ?_⟩
  obtain ⟨j, hj, hid⟩ := h.mid.has t ht hd
  have := fits_later (h.mid.fit j hj t ht hid)
  omega

def dueS (S : WS) : WS := { S with live := S.live.filter (fun t => decide (t.id ∉ S.due)), due := [] }

theorem due_calm {S : WS} (h : Rest S) : Calm (dueS S) := by
  have hm := h.mid
  have hsub : ∀ t ∈ (dueS S).live, t ∈ S.live ∧ t.id ∉ S.due := fun t ht => by
    obtain ⟨h1, h2⟩ := List.mem_filter.1 ht
    simp only [decide_eq_true_eq] at h2
    exact ⟨h1, h2⟩
  refine ⟨⟨hm.inc.sublist ((List.filter_sublist).map _), fun t ht => hm.lt_ t (hsub t ht).1, fun t ht => hm.far t (hsub t ht).1, fun j hj t ht hid => hm.fit j hj t (hsub t ht).1 hid,
    fun t ht _ => hm.has t (hsub t ht).1 (hsub t ht).2, hm.slt, fun id hid => by simp [dueS] at hid, ⟨hm.cnt.c0, hm.cnt.c1, hm.cnt.c2⟩, ?_⟩, rfl⟩
  have := hm.tot
  unfold tot at this ⊢
  show many S.slot 0 1024 + 0 ≤ S.next
  omega

theorem due_live {S : WS} (h : Rest S) : (dueS S).live = S.live.filter (fun t => decide (t.at_ ≠ S.now)) ∧ ids (S.live.filter (fun t => decide (t.id ∈ S.due))) = ids (S.live.filter (fun t => decide (t.at_ = S.now))) :=
  ⟨List.filter_congr (fun t ht => decide_eq_decide.2 (not_congr (h.due_iff ht))), congrArg ids (List.filter_congr (fun t ht => decide_eq_decide.2 (h.due_iff ht)))⟩

/-- ticks that are skipped. -/
theorem skip_calm {S : WS} (h : Calm S) (k : Nat) (hk : k ≤ spanOf S - S.now % spanOf S - 1) : Calm { S with now := S.now + k } ∧ ∀ t ∈ S.live, S.now + k < t.at_ := by
  have hm := h.1
  have c0 := hm.cnt.c0; have c1 := hm.cnt.c1; have c2 := hm.cnt.c2
  have key : ∀ t ∈ S.live, ∀ j, j < 1024 → t.id ∈ S.slot j → Fits (S.now + k) t.at_ j := by
    intro t ht j hj hid
    have hf := hm.fit j hj t ht hid
    have ne : S.slot j ≠ [] := fun e => by rw [e] at hid; simp at hid
    unfold spanOf at hk
    split at hk
    · obtain rfl : k = 0 := by omega
      exact hf
    · have z0 : j < 768 := Classical.byContradiction fun hh => ne (many_zero (b := 768) 256 (by omega) j (by omega) (by omega))
      split at hk
      · unfold Fits at hf ⊢
        rcases hf with ⟨h0, h1, h2⟩ | ⟨h0, h1, h2⟩ | ⟨h0, h1, h2⟩ | ⟨h0, h1, h2⟩
        · omega
        · exact .inr (.inl ⟨h0, by omega, by omega⟩)
        · exact .inr (.inr (.inl ⟨h0, by omega, by omega⟩))
        · exact .inr (.inr (.inr ⟨h0, by omega, by omega⟩))
      · have z1 : j < 512 := Classical.byContradiction fun hh => ne (many_zero (b := 512) 256 (by omega) j (by omega) (by omega))
        split at hk
        · unfold Fits at hf ⊢
          rcases hf with ⟨h0, h1, h2⟩ | ⟨h0, h1, h2⟩ | ⟨h0, h1, h2⟩ | ⟨h0, h1, h2⟩
          · omega
          · omega
          · exact .inr (.inr (.inl ⟨h0, by omega, by omega⟩))
          · exact .inr (.inr (.inr ⟨h0, by omega, by omega⟩))
        · have z2 : j < 256 := Classical.byContradiction fun hh => ne (many_zero (b := 256) 256 (by omega) j (by omega) (by omega))
          unfold Fits at hf ⊢
          rcases hf with ⟨h0, h1, h2⟩ | ⟨h0, h1, h2⟩ | ⟨h0, h1, h2⟩ | ⟨h0, h1, h2⟩
          · omega
          · omega
          · omega
          · exact .inr (.inr (.inr ⟨h0, by omega, by omega⟩))
  have later : ∀ t ∈ S.live, S.now + k < t.at_ := fun t ht => by
    obtain ⟨j, hj, hid⟩ := hm.has t ht (by rw [h.2]; simp)
    exact fits_later (key t ht j hj hid)
  refine ⟨⟨⟨hm.inc, hm.lt_, fun t ht => ?_, fun j hj t ht hid => key t ht j hj hid, hm.has, hm.slt, hm.dlt, ⟨c0, c1, c2⟩, hm.tot⟩, h.2⟩, later⟩
  have h1 := hm.far t ht
  have h2 := later t ht
  show S.now + k ≤ t.at_ ∧ t.at_ ≤ S.now + k + 1073741824
  omega
end Go.Proofs.Ytlbdfhbkemikgaa

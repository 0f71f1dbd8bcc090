/- cmp.Compare, the sort of a row of ids. -/
import Derived.Test.YtlbdfhbkemikgaaWalkF
import Derived.Test.YtlbdfhbkemikgaaSort
set_option linter.unusedVariables false
set_option linter.unusedSimpArgs false
namespace Go.Proofs.Ytlbdfhbkemikgaa
open Go.RowKit Plain
open Go.Sort

theorem isNaN_c (x : Int) (w : World) : Calls Try.prog 44 #[.int .i64 x] w fun e w' => e = .returned (.bool false) ∧ w' = w := by
  go_enter Try.func44, Try.ntmps44
  go_wp2
  go_ret
  exact ⟨rfl, rfl⟩

def cfN (x y : Nat) : Int := if x < y then -1 else if y < x then 1 else 0

theorem compare_c (x y : Nat) (w : World) : Calls Try.prog 30 #[iv x, iv y] w fun e w' => e = .returned (.int .i64 (cfN x y)) ∧ w' = w := by
  have con := Lib.hid (fun x w => isNaN_c x w)
  unfold iv
  by_cases h1 : x < y
  · have e : Hid (cfN x y = -1) := if_pos h1
    have d1 : (x : Int) < y := by omega
    go_enter Try.func30, Try.ntmps30
    go_wp2_with (go_at_call 44; refine (con.out _ _).mono ?_; rintro e w' ⟨rfl, rfl⟩)
    go_ret
    exact ⟨by rw [e.out]; rfl, rfl⟩
  · by_cases h2 : y < x
    · have e : Hid (cfN x y = 1) := by unfold cfN Hid; rw [if_neg h1, if_pos h2]
      have d1 : ¬ (x : Int) < y := by omega
      have d2 : (x : Int) > y := by omega
      go_enter Try.func30, Try.ntmps30
      go_wp2_with (go_at_call 44; refine (con.out _ _).mono ?_; rintro e w' ⟨rfl, rfl⟩)
      go_ret
      exact ⟨by rw [e.out]; rfl, rfl⟩
    · have e : Hid (cfN x y = 0) := by unfold cfN Hid; rw [if_neg h1, if_neg h2]
      have d1 : ¬ (x : Int) < y := by omega
      have d2 : ¬ (x : Int) > y := by omega
      go_enter Try.func30, Try.ntmps30
      go_wp2_with (go_at_call 44; refine (con.out _ _).mono ?_; rintro e w' ⟨rfl, rfl⟩)
      go_ret
      exact ⟨by rw [e.out]; rfl, rfl⟩

theorem ltN (x y : Nat) : ltOf cfN x y = decide (x < y) := by
  unfold ltOf cfN
  by_cases h1 : x < y
  · simp [h1]
  · by_cases h2 : y < x <;> simp [h1, h2]

theorem swoN : SWO (ltOf cfN) where
  irrefl x := by rw [ltN]; simp
  trans x y z h1 h2 := by rw [ltN] at *; simp at *; omega
  ntrans x y z h1 h2 := by rw [ltN] at *; simp at *; omega

def sortL (l : List Nat) : List Nat := l.mergeSort fun x y => !(ltOf cfN) y x

theorem sortL_perm (l : List Nat) : (sortL l).Perm l := List.mergeSort_perm l _
theorem sortL_sorted (l : List Nat) : (sortL l).Pairwise (· ≤ ·) := by
  have h := List.pairwise_mergeSort (le := fun x y => !(ltOf cfN) y x) (fun a b c h1 h2 => by rw [ltN] at *; simp at *; omega) (fun a b => by rw [ltN, ltN]; simp; omega) l
  exact h.imp (fun h => by rw [ltN] at h; simpa using h)

theorem sortL_mem {l : List Nat} {x : Nat} : x ∈ sortL l ↔ x ∈ l := (sortL_perm l).mem_iff
theorem sortL_len (l : List Nat) : (sortL l).length = l.length := (sortL_perm l).length_eq

theorem eg30 : ∀ args w, (callFunc 30 args).run Try.prog w = .ok (.enter 30 args) w := enters_of Try.func30 (by kernel_rfl) rfl

theorem sortWorld_grown {w : World} {g n : Nat} {d : Array Nat} {os : Array Obj} : w.grownBy (sortWorld iv w g 0 n d os) (some g) := by
  refine ⟨rfl, rfl, rfl, by simp [sortWorld, grow, putRow, mapBlock], fun k hk hne => ?_⟩
  have hk' : k < (putRow iv (Sort.ahead w n) g 0 d).heap.size := by simpa using hk
  unfold sortWorld
  rw [heap_grow_old _ _ hk']
  unfold putRow mapBlock
  simp only [Array.getElem?_modify]
  rw [if_neg (by intro e; exact hne (by rw [e]))]
  rfl

theorem sort_c (w : World) (v : Value) (l : List Nat) (h : Sl w v l) (hl : l.length < 1000000000000) :
    Calls Try.prog 29 #[v, .func (.func 30) #[] #[]] w fun e w' => e = .returned (.tuple #[]) ∧ Sl w' v (sortL l) ∧ w.grownBy w' v.ownBlock := by
  rcases h.2 with ⟨rfl, h2⟩ | ⟨g, c, cur, rfl, _, hg, hnc, hcm, hcs, htk⟩
  · have el : l = [] := List.eq_nil_of_length_eq_zero h2
    subst el
    refine (Try.slices_SortFunc_none (α := Nat) none 0 _ w).mono ?_
    rintro e w' ⟨rfl, rfl⟩
    exact ⟨rfl, by rw [show sortL [] = [] by simp [sortL]]; exact h, ⟨rfl, rfl, rfl, Nat.le_refl _, fun _ _ _ => rfl⟩⟩
  · have hH : Holds iv w g 0 l.toArray := by
      intro j hj
      have hj' : j < l.length := by simpa using hj
      refine ⟨?_, by simp [World.frozen?, hg]⟩
      have := sl_cell h (k := j) (id := l[j]) (List.getElem?_eq_getElem hj')
      rw [Nat.zero_add, this, getElem!_pos _ j hj]
      rfl
    have hcmp : CmpLays1 Try.prog 30 #[] iv cfN g 0 l.toArray.size w := by
      intro m os dk _ x y
      refine (compare_c x y _).mono ?_
      rintro e w' ⟨rfl, rfl⟩
      exact ⟨rfl, 0, #[], by rw [grow_empty]; rfl⟩
    have con := Try.slices_SortFunc_total iv (fun _ => rfl) cfN swoN 30 #[] g 0 c l.toArray w eg30 hcmp hH (Array.getElem?_eq_some_iff.1 hg).1 (by simp; omega) (fun x y h1 h2 => by rw [ltN] at *; simp at *; omega)
    rw [show l.toArray.size = l.length by simp] at con
    refine con.mono ?_
    rintro e w' ⟨rfl, n, os, rfl⟩
    refine ⟨rfl, ?_, sortWorld_grown⟩
    have e1 : (l.toArray.toList.mergeSort fun x y => !(ltOf cfN) y x) = sortL l := rfl
    rw [e1]
    refine ⟨by simp, .inr ⟨g, c, putCells iv 0 (sortL l).toArray cur, by rw [sortL_len], Nat.zero_le _, ?_, by rw [sortL_len]; exact hnc, hcm, by simp [putCells, hcs], ?_⟩⟩
    · unfold sortWorld
      rw [heap_grow_old _ _ (by simpa using (Array.getElem?_eq_some_iff.1 hg).1)]
      unfold putRow mapBlock
      simp only [Array.getElem?_modify]
      simp [Sort.ahead, hg, onCells]
    · apply List.ext_getElem?
      intro j
      rw [sortL_len, List.getElem?_map]
      by_cases hj : j < l.length
      · have hjs : j < (sortL l).length := by rw [sortL_len]; exact hj
        have hjc : j < cur.size := by omega
        rw [List.getElem?_take_of_lt (by omega), Array.getElem?_toList, List.getElem?_eq_getElem hjs]
        unfold putCells
        rw [Array.getElem?_mapIdx, Array.getElem?_eq_getElem hjc]
        simp [hjs]
      · rw [List.getElem?_eq_none (by simp; omega), List.getElem?_eq_none (by rw [sortL_len]; omega)]
        rfl
end Go.Proofs.Ytlbdfhbkemikgaa

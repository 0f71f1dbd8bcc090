/- A row whose block may be longer than its capacity says ('xs[:k:k]'): what an append makes of it, whatever is appended. -/
import Derived.Laws.AppendOwn
import Derived.RegionTactic
import Derived.WalkKit
set_option linter.unusedVariables false
set_option linter.unusedSimpArgs false
namespace Go.Proofs.Ytlbdfhbkemikgaa
open Go.RowKit

def LRow (w : World) (e : TypeId) (size : Nat) (v : Value) (n : Nat) (xs : List Value) : Prop :=
  xs.length = n * size ∧ ((v = .slice none 0 0 ∧ n = 0) ∨
    ∃ g cap cur, v = .slice (some ⟨g, 0, none⟩) n cap ∧ w.heap[g]? = some (.cells cur e (0, 0)) ∧ n ≤ cap ∧ cap ≤ maxLen ∧ cap * size ≤ cur.size ∧ cur.toList.take (n * size) = xs)

/-- what is appended: its cells, if there are any. -/
def Src (w : World) (size : Nat) (A : Option Addr) (m : Nat) (news : List Value) : Prop :=
  news.length = m * size ∧ (0 < m → ∃ ad, A = some ad ∧ ∀ j u, news[j]? = some u → w.cell? (ad.add j) = some u)

theorem addr_add0 (g o j : Nat) : (⟨g, o, none⟩ : Addr).add j = ⟨g, o + j, none⟩ := by unfold Addr.add; split <;> simp_all

section
variable {w w' : World} {e : TypeId} {size n m : Nat} {v : Value} {xs : List Value} {A : Option Addr}
theorem LRow.nil (w : World) (e : TypeId) (size : Nat) : LRow w e size (.slice none 0 0) 0 [] := ⟨by simp, .inl ⟨rfl, rfl⟩⟩
theorem LRow.of_block (h : LRow w e size v n xs) (hb : ∀ g, v.ownBlock = some g → w'.heap[g]? = w.heap[g]?) : LRow w' e size v n xs := by
  refine ⟨h.1, h.2.imp (fun h => h) ?_⟩
  rintro ⟨g, cap, cur, rfl, hg, r⟩
  exact ⟨g, cap, cur, rfl, (hb g rfl).trans hg, r⟩
theorem LRow.shape (h : LRow w e size v n xs) : ∃ A c, v = .slice A n c ∧ n ≤ c ∧ c ≤ maxLen ∧ (A = none → n = 0 ∧ c = 0) ∧ (∀ ad, A = some ad → ∃ g, ad = ⟨g, 0, none⟩ ∧ g < w.heap.size) ∧ (0 < n → ∃ g, A = some ⟨g, 0, none⟩) := by
  rcases h.2 with ⟨rfl, rfl⟩ | ⟨g, cap, cur, rfl, hg, h1, h2, _⟩
  · exact ⟨none, 0, rfl, by omega, by unfold maxLen; omega, fun _ => ⟨rfl, rfl⟩, fun ad h => (by cases h), fun h => by omega⟩
  · exact ⟨_, cap, rfl, h1, h2, (fun h => by cases h), fun ad h => by injection h with h; subst h; exact ⟨g, rfl, (Array.getElem?_eq_some_iff.1 hg).1⟩, fun _ => ⟨g, rfl⟩⟩
theorem LRow.lt (h : LRow w e size v n xs) {g : Nat} (hg : v.ownBlock = some g) : g < w.heap.size := by
  rcases h.2 with ⟨rfl, _⟩ | ⟨g', cap, cur, rfl, hg', _⟩
  · simp [Value.ownBlock] at hg
  · simp [Value.ownBlock] at hg
    subst hg
    exact (Array.getElem?_eq_some_iff.1 hg').1
theorem LRow.ty (h : LRow w e size v n xs) {g : Nat} (hg : v.ownBlock = some g) : ∃ cs, w.heap[g]? = some (.cells cs e (0, 0)) := by
  rcases h.2 with ⟨rfl, _⟩ | ⟨g', cap, cur, rfl, hg', _⟩
  · simp [Value.ownBlock] at hg
  · simp [Value.ownBlock] at hg
    subst hg
    exact ⟨_, hg'⟩
theorem LRow.cell {g c : Nat} (h : LRow w e size (.slice (some ⟨g, 0, none⟩) n c) n xs) {j : Nat} {u : Value} (hj : xs[j]? = some u) : w.cell? ⟨g, j, none⟩ = some u := by
  rcases h.2 with ⟨h1, _⟩ | ⟨g', cap, cur, hv, hg, h1, h2, h3, h4⟩
  · cases h1
  · have e1 : g = g' := by injection hv with h1; injection h1 with h1; injection h1
    subst e1
    rw [cell_of_row w g j cur e (0, 0) hg]
    rw [← h4] at hj
    have := (List.getElem?_eq_some_iff.1 hj).1
    rw [List.getElem?_take_of_lt (by simp at this; omega)] at hj
    simpa using hj
theorem LRow.src {c : Nat} (h : LRow w e size (.slice A n c) n xs) : Src w size A n xs := by
  refine ⟨h.1, fun hn => ?_⟩
  obtain ⟨A', c', hv, _, _, _, _, hp⟩ := h.shape
  obtain ⟨g, rfl⟩ := hp hn
  injection hv with h1 _ _
  subst h1
  exact ⟨_, rfl, fun j u hu => by rw [addr_add0, Nat.zero_add]; exact h.cell hu⟩
/-- 'xs[:k:k]'. -/
theorem LRow.cut {c k : Nat} (h : LRow w e size (.slice A n c) n xs) (hk : k ≤ n) : LRow w e size (.slice A k k) k (xs.take (k * size)) := by
  have hks : k * size ≤ n * size := Nat.mul_le_mul_right _ hk
  rcases h.2 with ⟨h1, h2⟩ | ⟨g', cap, cur, hv, hg, h1, h2, h3, h4⟩
  · injection h1 with h1 _ _
    subst h1; subst h2
    obtain rfl : k = 0 := by omega
    refine ⟨by simp, .inl ⟨rfl, rfl⟩⟩
  · injection hv with a1 a2 a3
    subst a1
    have hc : k * size ≤ cap * size := Nat.mul_le_mul_right _ (by omega)
    refine ⟨by rw [List.length_take, h.1]; omega, .inr ⟨g', k, cur, rfl, hg, Nat.le_refl _, by omega, by omega, ?_⟩⟩
    rw [← h4, List.take_take]
    congr 1; omega
/-- 'xs[k:]'. -/
theorem LRow.rest {c k : Nat} (h : LRow w e size (.slice A n c) n xs) (hk : k ≤ n) {A' : Option Addr} (hA : k < n → A' = A.map (·.add (k * size))) : Src w size A' (n - k) (xs.drop (k * size)) := by
  refine ⟨by rw [List.length_drop, h.1, Nat.sub_mul], fun hn => ?_⟩
  obtain ⟨A1, c', hv, _, _, _, _, hp⟩ := h.shape
  obtain ⟨g, rfl⟩ := hp (by omega)
  injection hv with h1 _ _
  subst h1
  rw [hA (by omega)]
  refine ⟨_, rfl, fun j u hu => ?_⟩
  rw [List.getElem?_drop] at hu
  show w.cell? (((⟨g, 0, none⟩ : Addr).add (k * size)).add j) = some u
  rw [addr_add0, addr_add0, Nat.zero_add]
  exact h.cell hu
theorem LRow.blk {A : Option Addr} {c : Nat} (h : LRow w e size (.slice A n c) n xs) {ad : Addr} (hA : A = some ad) : ad.block < w.heap.size := by
  subst hA; exact h.lt (g := ad.block) rfl
theorem cut_blk {A : Option Addr} {k : Nat} {ad : Addr} (h : A.map (·.add (k * size)) = some ad) : ∃ a0, A = some a0 ∧ ad.block = a0.block := by
  cases A with
  | none => cases h
  | some a0 =>
    injection h with h
    subst h
    exact ⟨a0, rfl, by unfold Addr.add; split <;> rfl⟩
theorem Src.of_block (h : Src w size A m xs) (hb : ∀ ad, A = some ad → w'.heap[ad.block]? = w.heap[ad.block]?) : Src w' size A m xs := by
  refine ⟨h.1, fun hm => ?_⟩
  obtain ⟨ad, rfl, hc⟩ := h.2 hm
  have hblk : ∀ j, (ad.add j).block = ad.block := fun j => by unfold Addr.add; split <;> rfl
  exact ⟨ad, rfl, fun j u hu => (World.cell?_of_block (by rw [hblk]; exact hb ad rfl)).trans (hc j u hu)⟩
end

section
variable {P : Program} (w : World)
theorem run_append_loose (t ty e : TypeId) (i : TypeInfo) (z : Value) (size bytes : Nat) (ht : P.underlying t = some (.slice e)) (hi : P.info? e = some i) (hz : i.zero = some z)
    (hsize : i.size = size) (hby : i.bytes = bytes) (hzs : z.cells.size = size) (hsz : 0 < size) (v : Value) (n : Nat) (xs : List Value) (hv : LRow w e size v n xs)
    (A : Option Addr) (m c : Nat) (news : List Value) (hs : Src w size A m news) (h1 : ∀ u ∈ news, u.oneCell' = true) (h63 : n + m ≤ maxLen) (hbytes : (n + m) * bytes ≤ 140737488355328) :
    ∃ v' w', (Builtin.append_ #[t, t] ty #[v, .slice A m c]).run P w = .ok v' w' ∧ LRow w' e size v' (n + m) (xs ++ news) ∧ w.grownBy w' v.ownBlock ∧ ∀ g, v'.ownBlock = some g → v.ownBlock = some g ∨ g = w.heap.size := by
  subst hsize
  subst hby
  have hsmall : n + m ≤ 9223372036854775807 := by simp only [maxLen] at h63; omega
  have hlen : (xs ++ news).length = (n + m) * i.size := by rw [List.length_append, hv.1, hs.1, Nat.add_mul]
  have made : ∀ old, old < n + m → LRow (w.drew.alloc (.cells (xs.toArray ++ news.toArray ++ Builtin.zeroCells z.cells (grownCap w (n + m) old e - (n + m))) e)) e i.size
        (.slice (some ⟨w.heap.size, 0, none⟩) (n + m) (grownCap w (n + m) old e)) (n + m) (xs ++ news) := by
    intro old ho
    refine ⟨hlen, .inr ⟨w.heap.size, _, _, rfl, heap_alloc_new w.drew _, grownCap_ge w (n + m) old e, grownCap_le_maxLen w (n + m) old e h63, ?_, ?_⟩⟩
    · have hge := grownCap_ge w (n + m) old e
      simp only [Array.size_append, List.size_toArray, size_zeroCells, hzs, hv.1, hs.1, ← Nat.add_mul]
      exact Nat.mul_le_mul_right _ (by omega)
    · simp only [Array.toList_append, List.append_assoc]
      rw [← List.append_assoc, ← hlen]
      exact List.take_left
  have grown : ∀ (o : Obj) (row : Option Nat), w.grownBy (w.drew.alloc o) row := fun o row => ⟨rfl, rfl, rfl, by simp, fun k hk _ => Below.heap_alloc w.drew _ k hk⟩
  rcases Nat.eq_zero_or_pos m with rfl | hm
  · have hn : news = [] := List.eq_nil_of_length_eq_zero (by simpa using hs.1)
    subst hn
    refine ⟨v, w, ?_, by simpa using hv, World.grownBy.refl w _, fun g hg => .inl hg⟩
    rcases hv.2 with ⟨rfl, _⟩ | ⟨g, cap, cur, rfl, hg, hnc, hcm, hcs, htake⟩
    · cases A <;> simp [Builtin.append_, run_underlying ht, sizeOf, typeInfo, hi, Builtin.lenOf, Builtin.firstCells, loadCells, loadCellsFrom]
    · cases A <;> simp [Builtin.append_, run_underlying ht, sizeOf, typeInfo, hi, Builtin.lenOf, Builtin.firstCells, loadCells, loadCellsFrom, hnc, storeCells]
  · obtain ⟨ad, rfl, hnews⟩ := hs.2 hm
    rcases hv.2 with ⟨rfl, rfl⟩ | ⟨g, cap, cur, rfl, hg, hnc, hcm, hcs, htake⟩
    · have hx : xs = [] := List.eq_nil_of_length_eq_zero (by simpa using hv.1)
      subst hx
      have hr := run_append_nil (P := P) w t ty e i z ht hi hz ad m c news hs.1 hnews hm (by omega) (by have hb := hbytes; simp only [Nat.zero_add] at hb; omega)
      have hm' := made 0 (by omega)
      simp only [Nat.zero_add, List.nil_append, Array.empty_append] at hm' ⊢
      exact ⟨_, _, hr, hm', grown _ _, fun g hg => .inr (by simpa [Value.ownBlock] using hg.symm)⟩
    · by_cases hroom : n + m ≤ cap
      · have h5 : (n + m) * i.size ≤ cap * i.size := Nat.mul_le_mul_right _ hroom
        have hfit : n * i.size + news.length ≤ cur.size := by rw [hs.1, ← Nat.add_mul]; omega
        have hr := run_append_room (P := P) w t ty e i ht hi g n cap cur hg ad m c news hs.1 hnews h1 hroom hfit
        refine ⟨_, _, hr, ⟨hlen, .inr ⟨g, cap, _, rfl, setRow_heap w g cur _ e _ hg, hroom, hcm, ?_, ?_⟩⟩, ⟨rfl, rfl, rfl, by simp, fun k _ hk => setRow_other w g k _ (fun e => hk (by simp [Value.ownBlock, e]))⟩, fun g' hg' => .inl hg'⟩
        · simp only [List.size_toArray, List.length_append, List.length_take, List.length_drop, Array.length_toList]
          omega
        · rw [htake, ← hlen]
          exact List.take_left
      · have holds : ∀ j u, xs[j]? = some u → w.cell? ((⟨g, 0, none⟩ : Addr).add j) = some u := fun j u hu => by rw [addr_add0, Nat.zero_add]; exact hv.cell hu
        have hr := run_append_grow (P := P) w t ty e i z ht hi hz ⟨g, 0, none⟩ n cap xs hv.1 holds ad m c news hs.1 hnews (by omega) (by omega) (growslice_fits (by omega) hbytes)
        exact ⟨_, _, hr, made cap (by omega), grown _ _, fun g hg => .inr (by simpa [Value.ownBlock] using hg.symm)⟩

/-- where 's[k:]' lies. -/
def cutA (A : Option Addr) (c k size : Nat) : Option Addr := if c = k then A else A.map (·.add (k * size))
theorem cutA_ne {A : Option Addr} {c k size : Nat} (h : c ≠ k) : cutA A c k size = A.map (·.add (k * size)) := if_neg h

theorem run_from {t e : TypeId} (ht : P.underlying t = some (.slice e)) {i : TypeInfo} (hi : P.info? e = some i) (A : Option Addr) (n c k : Nat) (hk : k ≤ n) {z : Int} (hz : z = (k : Int)) :
    (Instr.slice t (.slice A n c) (some (.int .i64 z)) none none).run P w = .ok (.slice (cutA A c k i.size) (n - k) (c - k)) w := by
  subst hz
  have h0 : 0 ≤ (k : Int) ∧ (k : Int) ≤ (n : Int) := by omega
  simp [Instr.slice, Instr.sliceBounds, Instr.sliceBound, asIntOf, run_underlying ht, sizeOf, typeInfo, hi, Result.andThen, h0, cutA, hk]

theorem cutA_blk {A : Option Addr} {c k size : Nat} {ad : Addr} (h : cutA A c k size = some ad) : ∃ a0, A = some a0 ∧ ad.block = a0.block := by
  unfold cutA at h
  split at h
  · exact ⟨ad, h, rfl⟩
  · exact cut_blk h

theorem run_full {t e : TypeId} (ht : P.underlying t = some (.slice e)) {i : TypeInfo} (hi : P.info? e = some i) (A : Option Addr) (n c k : Nat) (hk : k ≤ c) {z : Int} (hz : z = (k : Int)) :
    (Instr.slice t (.slice A n c) none (some (.int .i64 z)) (some (.int .i64 z))).run P w = .ok (.slice A k k) w := by
  subst hz
  have h0 : 0 ≤ (k : Int) ∧ (k : Int) ≤ (c : Int) := by omega
  have h1 : 0 ≤ (k : Int) ∧ (k : Int) ≤ (k : Int) := by omega
  have e0 : A.map (·.add (0 * i.size)) = A := by cases A <;> simp [Addr.add]
  simp [Instr.slice, Instr.sliceBounds, Instr.sliceBound, asIntOf, run_underlying ht, sizeOf, typeInfo, hi, Result.andThen, h0, hk]
  cases A <;> simp [Addr.add]

theorem wp_append_loose {o : Oper} {a : Act} {K : Act → World → Prop} {Q : Exit → Act → World → Prop} (s x : Operand) (t : TypeId)
    (ho : o.op = .call { callee := .builtin .append, args := #[s, x], argTypes := #[t, t] })
    (e : TypeId) (i : TypeInfo) (z : Value) (size bytes : Nat) (ht : P.underlying t = some (.slice e)) (hi : P.info? e = some i) (hz : i.zero = some z)
    (hsize : i.size = size) (hby : i.bytes = bytes) (hzs : z.cells.size = size) (hsz : 0 < size) (v : Value) (n : Nat) (xs : List Value) (hev : a.eval s = v) (hv : LRow w e size v n xs)
    (A : Option Addr) (m c : Nat) (news : List Value) (hex : a.eval x = .slice A m c) (hs : Src w size A m news) (h1 : ∀ u ∈ news, u.oneCell' = true) (h63 : n + m ≤ maxLen) (hbytes : (n + m) * bytes ≤ 140737488355328)
    (h : ∀ v' w', LRow w' e size v' (n + m) (xs ++ news) → w.grownBy w' v.ownBlock → (∀ g, v'.ownBlock = some g → v.ownBlock = some g ∨ g = w.heap.size) → K (a.put o.dst v') w') : o.wp P a w K Q := by
  obtain ⟨v', w', hr, h2, h3, h4⟩ := run_append_loose (P := P) w t o.type e i z size bytes ht hi hz hsize hby hzs hsz v n xs hv A m c news hs h1 h63 hbytes
  unfold Oper.wp execOp
  simp only [ho, resolve, invoke, builtin, Sem.run_bind, Sem.run_pure, Result.andThen_ok, List.map_toArray, List.map_cons, List.map_nil, hev, hex, hr]
  exact h v' w' h2 h3 h4

theorem wpList_append_loose {ops : Array Oper} {rest : List Oper} {o : Oper} {a : Act} {Q : Exit → Act → World → Prop} (hgd : o.guard = none) (s x : Operand) (t : TypeId)
    (ho : o.op = .call { callee := .builtin .append, args := #[s, x], argTypes := #[t, t] })
    (e : TypeId) (i : TypeInfo) (z : Value) (size bytes : Nat) (ht : P.underlying t = some (.slice e)) (hi : P.info? e = some i) (hz : i.zero = some z)
    (hsize : i.size = size) (hby : i.bytes = bytes) (hzs : z.cells.size = size) (hsz : 0 < size) (v : Value) (n : Nat) (xs : List Value) (hev : a.eval s = v) (hv : LRow w e size v n xs)
    (A : Option Addr) (m c : Nat) (news : List Value) (hex : a.eval x = .slice A m c) (hs : Src w size A m news) (h1 : ∀ u ∈ news, u.oneCell' = true) (h63 : n + m ≤ maxLen) (hbytes : (n + m) * bytes ≤ 140737488355328)
    (h : ∀ v' w', LRow w' e size v' (n + m) (xs ++ news) → w.grownBy w' v.ownBlock → (∀ g, v'.ownBlock = some g → v.ownBlock = some g ∨ g = w.heap.size) → wpList P ops Q rest (a.put o.dst v') w') : wpList P ops Q (o :: rest) a w :=
  wpList_plain hgd fun _ hK => wp_append_loose w s x t ho e i z size bytes ht hi hz hsize hby hzs hsz v n xs hev hv A m c news hex hs h1 h63 hbytes fun v' w' h2 h3 h4 => hK _ _ (h v' w' h2 h3 h4)

theorem step_append_loose {ops : Array Oper} {o : Oper} {a : Act} {K : Act → World → Prop} {Q : Exit → Act → World → Prop} {E : Prop} (hgd : o.guard = none) (s x : Operand) (t : TypeId)
    (ho : o.op = .call { callee := .builtin .append, args := #[s, x], argTypes := #[t, t] })
    (e : TypeId) (i : TypeInfo) (z : Value) (size bytes : Nat) (ht : P.underlying t = some (.slice e)) (hi : P.info? e = some i) (hz : i.zero = some z)
    (hsize : i.size = size) (hby : i.bytes = bytes) (hzs : z.cells.size = size) (hsz : 0 < size) (v : Value) (n : Nat) (xs : List Value) (hev : a.eval s = v) (hv : LRow w e size v n xs)
    (A : Option Addr) (m c : Nat) (news : List Value) (hex : a.eval x = .slice A m c) (hs : Src w size A m news) (h1 : ∀ u ∈ news, u.oneCell' = true) (h63 : n + m ≤ maxLen) (hbytes : (n + m) * bytes ≤ 140737488355328)
    (h : ∀ v' w', LRow w' e size v' (n + m) (xs ++ news) → w.grownBy w' v.ownBlock → (∀ g, v'.ownBlock = some g → v.ownBlock = some g ∨ g = w.heap.size) → K (a.put o.dst v') w') :
    if Region.wanted o (yielded ops a.tmps) = true then Oper.wp P o a w K Q else E := by
  have hw : Region.wanted o (yielded ops a.tmps) = true := by simp [Region.wanted, hgd]
  rw [if_pos hw]
  exact wp_append_loose w s x t ho e i z size bytes ht hi hz hsize hby hzs hsz v n xs hev hv A m c news hex hs h1 h63 hbytes h
end
end Go.Proofs.Ytlbdfhbkemikgaa

/- Two wheels beside each other; one row onto another one. -/
import Derived.Test.YtlbdfhbkemikgaaInts
set_option linter.unusedVariables false
set_option linter.unusedSimpArgs false
namespace Go.Proofs.Ytlbdfhbkemikgaa
open Go.RowKit Plain Go.ChangeShapes Go.WideShapes Go.ChangeAt

theorem run_append_none (w : World) (ty : TypeId) (v : Value) (l : List Nat) (hv : Sl w v l) (c : Nat) : (Builtin.append_ #[29, 29] ty #[v, .slice none 0 c]).run Try.prog w = .ok v w := by
  obtain ⟨i0, hi, hz0, hz1, hz2⟩ := info_parts Try.longInfo
  rcases hv.2 with ⟨rfl, _⟩ | ⟨g, cap, cur, rfl, _, _, hnc, _⟩
  · simp [Builtin.append_, run_underlying Try.underlying29, sizeOf, typeInfo, hi, Builtin.lenOf, Builtin.firstCells]
  · simp [Builtin.append_, run_underlying Try.underlying29, sizeOf, typeInfo, hi, Builtin.lenOf, Builtin.firstCells, hnc, storeCells]

/-- 'append(v, x...)' at two rows. -/
theorem wp_append_sl {ops : Array Oper} {rest : List Oper} {o : Oper} {a : Act} {Q : Exit → Act → World → Prop} (hgd : o.guard = none) (s x : Operand)
    (ho : o.op = .call { callee := .builtin .append, args := #[s, x], argTypes := #[29, 29] }) (v u : Value) (l k : List Nat) (W : World) (hv : Sl W v l) (hu : Sl W u k) (hs : a.eval s = v) (hx : a.eval x = u)
    (hlen : l.length + k.length < 1099511627776)
    (h : ∀ v' w', Sl w' v' (l ++ k) → W.grownBy w' v.ownBlock → (∀ g, v'.ownBlock = some g → v.ownBlock = some g ∨ W.heap.size ≤ g) → wpList Try.prog ops Q rest (a.put o.dst v') w') :
    wpList Try.prog ops Q (o :: rest) a W := by
  obtain ⟨i0, hi, hz0, hz1, hz2⟩ := info_parts Try.longInfo
  rcases sl_cases hu with ⟨rfl, rfl⟩ | ⟨g, c, rfl⟩
  · refine wpList_plain hgd fun K hK => ?_
    unfold Oper.wp execOp
    simp only [ho, resolve, invoke, builtin, Sem.run_bind, Sem.run_pure, Result.andThen_ok, List.map_toArray, List.map_cons, List.map_nil, hs, hx, run_append_none W o.type v l hv 0]
    exact hK _ _ (h v W (by simpa using hv) (World.grownBy.refl W _) (fun g hg => .inl hg))
  · refine wpList_append_own_at _ hgd s x 29 ho 0 2 i0 (.int .i64 0) 1 8 Try.underlying29 hi hz0 hz1 hz2 rfl (by decide) v l.length (l.map iv) hs hv ⟨g, 0, none⟩ k.length c (k.map iv) hx (by simp)
      (fun j z hz => by
        rw [List.getElem?_map] at hz
        obtain ⟨id, h1, rfl⟩ := Option.map_eq_some_iff.1 hz
        have : (⟨g, 0, none⟩ : Addr).add j = ⟨g, j, none⟩ := by unfold Addr.add; split <;> simp_all
        rw [this]; exact sl_cell hu h1)
      (fun z hz => by obtain ⟨id, _, rfl⟩ := List.mem_map.1 hz; rfl) (by unfold maxLen; omega) (by omega) (Nat.zero_le _) ?_
    intro v' w' h1 h2 _ h3
    refine h v' w' ?_ h2 (fun g hg => ?_)
    · unfold Sl; rw [List.map_append, List.length_append]; exact h1
    · rcases h3 with h3 | h3
      · exact .inl (h3 ▸ hg)
      · rw [h3] at hg
        simp at hg
        exact .inr (by omega)

structure Two (w0 w : World) (p m : Nat) (V : Nat → Value) (S : WS) (p' m' : Nat) (V' : Nat → Value) (S' : WS) : Prop where
  a : St w0 w p m V S
  b : St w0 w p' m' V' S'
  apart : ∀ k, foot p m V k → ¬ foot p' m' V' k

section
variable {w0 w w1 : World} {p m p' m' : Nat} {V V' V1 : Nat → Value} {S S' S1 : WS}
theorem Two.swap (h : Two w0 w p m V S p' m' V' S') : Two w0 w p' m' V' S' p m V S := ⟨h.b, h.a, fun k h1 h2 => h.apart k h2 h1⟩
theorem Two.keep (h : Two w0 w p m V S p' m' V' S') (hk : Keep Nothing w w1) : Two w0 w1 p m V S p' m' V' S' := ⟨h.a.keep hk, h.b.keep hk, h.apart⟩
theorem Two.step (h : Two w0 w p m V S p' m' V' S') (hs : Step p m w V w1 V1) (ha : St w0 w1 p m V1 S1) : Two w0 w1 p m V1 S1 p' m' V' S' := by
  refine ⟨ha, ⟨h.b.1.keep hs.keep (fun k hk hf => h.apart k hf hk), h.b.2.1, ha.2.2.1, h.b.2.2.2⟩, fun k hk hf => ?_⟩
  rcases hs.sub k hk with h1 | h1
  · exact h.apart k h1 hf
  · have := h.b.1.foot_lt hf; omega
end
end Go.Proofs.Ytlbdfhbkemikgaa

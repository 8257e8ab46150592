/- append to slices of at most 1.75e13 numbers. Printed by gen_big.py. -/
import Derived.Test.YtnmklkjlcpgjmaaQTopWordProblem0
import Derived.Test.YtnmklkjlcpgjmaaQTopWordProblem1

namespace Go.Proofs.Ytnmklkjlcpgjmaa
open Go.RowKit Go.Sl

theorem wpList_pushB {w : World} {ops : Array Oper} {rest : List Oper} {o : Oper} {a : Act} {Q : Exit → Act → World → Prop} (hgd : o.guard = none) (s x : Operand)
    (ho : o.op = .call { callee := .builtin .append, args := #[s, x], argTypes := #[22, 22] })
    {B : Nat} {v : Value} {xs : List Int} {z : Int} (hs : a.eval s = v) (hx : a.eval x = .slice (some ⟨w.heap.size, 0, none⟩) 1 1) (hown : OwnI w B v xs) (hB : B ≤ w.heap.size) (hlen : xs.length ≤ 17500000000000)
    (h : ∀ v' w', OwnI w' B v' (xs ++ [z]) → w.grownBy w' (row v) → (∀ k, row v' = some k → row v = some k ∨ w.heap.size ≤ k) → wpList Try.prog ops Q rest (a.put o.dst v') w') :
    wpList Try.prog ops Q (o :: rest) a (w.alloc (.cells #[.int .i64 z] 3)) := by
  obtain ⟨i, hi, hz0, hz1, hz2⟩ := info_parts info_int
  have hl := hown.len
  refine wpList_append_sl hgd s x _ ho B 3 i (.int .i64 0) 1 8 Try.underlying22 hi hz0 hz1 hz2 rfl (by decide) hs hx (Own.alloc hown _) (sl_one w (.int .i64 z) 3)
    (by intro u hu; simp at hu; subst hu; rfl) (by simp only [vlen_mk, hl, maxLen]; omega) (by simp only [vlen_mk, hl]; omega) (by simp; omega) ?_
  intro v' w' h1 h2 h3
  refine h v' w' (by unfold OwnI; simpa using h1) ?_ ?_
  · exact ⟨h2.os, h2.tape, h2.output, by have := h2.size; simp at this; omega, fun k hk hr => (h2.block k (by simp; omega) hr).trans (Below.heap_alloc w _ k hk)⟩
  · intro k hk; rcases h3 k hk with h | h
    · exact .inl h
    · exact .inr (by simp at h; omega)

theorem wpList_concatB {w : World} {ops : Array Oper} {rest : List Oper} {o : Oper} {a : Act} {Q : Exit → Act → World → Prop} (hgd : o.guard = none) (s x : Operand)
    (ho : o.op = .call { callee := .builtin .append, args := #[s, x], argTypes := #[22, 22] })
    {B : Nat} {v y : Value} {xs ys : List Int} (hs : a.eval s = v) (hx : a.eval x = y) (hown : OwnI w B v xs) (hy : Ints w y ys) (hB : B ≤ w.heap.size) (hlen : xs.length + ys.length ≤ 17500000000000)
    (h : ∀ v' w', OwnI w' B v' (xs ++ ys) → w.grownBy w' (row v) → (∀ k, row v' = some k → row v = some k ∨ w.heap.size ≤ k) → wpList Try.prog ops Q rest (a.put o.dst v') w') :
    wpList Try.prog ops Q (o :: rest) a w := by
  obtain ⟨i, hi, hz0, hz1, hz2⟩ := info_parts info_int
  have hl := hown.len
  have hl' := hy.len
  refine wpList_append_sl hgd s x _ ho B 3 i (.int .i64 0) 1 8 Try.underlying22 hi hz0 hz1 hz2 rfl (by decide) hs hx hown hy
    (by intro u hu; obtain ⟨_, _, rfl⟩ := List.mem_map.1 hu; rfl) (by rw [hl, hl']; simp only [maxLen]; omega) (by rw [hl, hl']; omega) hB ?_
  intro v' w' h1 h2 h3
  exact h v' w' (by unfold OwnI; simpa using h1) h2 h3

end Go.Proofs.Ytnmklkjlcpgjmaa


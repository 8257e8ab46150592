/- Arguments as data: what a slice of ints or an int that came in reads as. -/
import Derived.Test.YtnmklkjlcpgjmaaQDehornoyRelations0
import Derived.Test.YtnmklkjlcpgjmaaQDehornoyRelations1
import Derived.Test.YtnmklkjlcpgjmaaQDehornoyRelations2
import Derived.Test.YtnmklkjlcpgjmaaQDehornoyRelations3
import Derived.ProofKit
import Derived.OpenShut
namespace Go.Proofs.Ytnmklkjlcpgjmaa
open Go.RowKit Go.Sl

theorem wpList_pushB {w : World} {ops : Array Oper} {rest : List Oper} {o : Oper} {a : Act} {Q : Exit → Act → World → Prop} (hgd : o.guard = none) (s x : Operand)
    (ho : o.op = .call { callee := .builtin .append, args := #[s, x], argTypes := #[22, 22] })
    {B : Nat} {v : Value} {xs : List Int} {z : Int} (hs : a.eval s = v) (hx : a.eval x = .slice (some ⟨w.heap.size, 0, none⟩) 1 1) (hown : OwnI w B v xs) (hB : B ≤ w.heap.size) (hlen : xs.length ≤ 17500000000000)
    (h : ∀ v' w', OwnI w' B v' (xs ++ [z]) → w.grownBy w' (row v) → (∀ k, row v' = some k → row v = some k ∨ w.heap.size ≤ k) → wpList Try.prog ops Q rest (a.put o.dst v') w') :
    wpList Try.prog ops Q (o :: rest) a (w.alloc (.cells #[.int .i64 z] 3)) := by
  obtain ⟨i, hi, hz0, hz1, hz2⟩ := info_parts info_int
  have hl := hown.len
  refine wpList_append_sl hgd s x _ ho B 3 i (.int .i64 0) 1 8 Try.underlying22 hi hz0 hz1 hz2 rfl (by decide) hs hx (Own.alloc hown _) (sl_one w (.int .i64 z) 3)
    (by intro u hu; simp at hu; subst hu; rfl) (by simp only [vlen_mk, hl, maxLen]; omega) (by simp only [vlen_mk, hl]; omega) (by simp; omega) ?_
  intro v' w' h1 h2 h3
  refine h v' w' (by unfold OwnI; simpa using h1) ?_ ?_
  · exact ⟨h2.os, h2.tape, h2.output, by have := h2.size; simp at this; omega, fun k hk hr => (h2.block k (by simp; omega) hr).trans (Below.heap_alloc w _ k hk)⟩
  · intro k hk; rcases h3 k hk with h | h
    · exact .inl h
    · exact .inr (by simp at h; omega)

theorem wpList_concatB {w : World} {ops : Array Oper} {rest : List Oper} {o : Oper} {a : Act} {Q : Exit → Act → World → Prop} (hgd : o.guard = none) (s x : Operand)
    (ho : o.op = .call { callee := .builtin .append, args := #[s, x], argTypes := #[22, 22] })
    {B : Nat} {v y : Value} {xs ys : List Int} (hs : a.eval s = v) (hx : a.eval x = y) (hown : OwnI w B v xs) (hy : Ints w y ys) (hB : B ≤ w.heap.size) (hlen : xs.length + ys.length ≤ 17500000000000)
    (h : ∀ v' w', OwnI w' B v' (xs ++ ys) → w.grownBy w' (row v) → (∀ k, row v' = some k → row v = some k ∨ w.heap.size ≤ k) → wpList Try.prog ops Q rest (a.put o.dst v') w') :
    wpList Try.prog ops Q (o :: rest) a w := by
  obtain ⟨i, hi, hz0, hz1, hz2⟩ := info_parts info_int
  have hl := hown.len
  have hl' := hy.len
  refine wpList_append_sl hgd s x _ ho B 3 i (.int .i64 0) 1 8 Try.underlying22 hi hz0 hz1 hz2 rfl (by decide) hs hx hown hy
    (by intro u hu; obtain ⟨_, _, rfl⟩ := List.mem_map.1 hu; rfl) (by rw [hl, hl']; simp only [maxLen]; omega) (by rw [hl, hl']; omega) hB ?_
  intro v' w' h1 h2 h3
  exact h v' w' (by unfold OwnI; simpa using h1) h2 h3

end Go.Proofs.Ytnmklkjlcpgjmaa

namespace Go.Proofs.Ytnmklkjlcpgjmaa
open Go.RowKit Go.Sl

/-- One word is the other with its first letters at its end. -/
def Rt (c d : List Int) : Prop := ∃ p q, c = p ++ q ∧ d = q ++ p
theorem Rt.refl (c : List Int) : Rt c c := ⟨[], c, by simp, by simp⟩
theorem Rt.symm {c d : List Int} (h : Rt c d) : Rt d c := let ⟨p, q, h1, h2⟩ := h; ⟨q, p, h2, h1⟩
theorem Rt.trans {c d e : List Int} (h : Rt c d) (k : Rt d e) : Rt c e := by
  obtain ⟨p, q, rfl, rfl⟩ := h
  obtain ⟨r, s, h1, rfl⟩ := k
  rcases List.append_eq_append_iff.1 h1 with ⟨t, rfl, rfl⟩ | ⟨t, rfl, rfl⟩
  · exact ⟨t, s ++ q, by simp, by simp⟩
  · exact ⟨p ++ r, t, by simp, by simp⟩
theorem Rt.length {c d : List Int} (h : Rt c d) : c.length = d.length := by
  obtain ⟨p, q, rfl, rfl⟩ := h
  simp only [List.length_append]; omega
/-- A letter in front, after a reduced word. -/
theorem front {R : List Int} (h : Rd R) (a : Int) : redL (a :: R) = match R with | [] => [a] | r :: t => if r = -a then t else a :: r :: t := by
  cases R with
  | nil => rfl
  | cons r t =>
    show redL (a :: r :: t) = if r = -a then t else a :: r :: t
    split
    · rename_i e
      subst e
      have := redL_cancel [] [-a] t
      have e2 : redL (a :: -a :: t) = redL t := by simpa [invL] using this
      rw [e2, redL_of_rd h.tail]
    · rename_i e
      exact redL_of_rd ⟨e, h⟩
theorem back {m : List Int} {r : Int} (h : Rd (m ++ [r])) (a : Int) : redL (m ++ [r] ++ [a]) = if r = -a then m else m ++ [r] ++ [a] := by
  split
  · rename_i e
    subst e
    have := redL_cancel m [a] []
    have e2 : redL (m ++ [-a] ++ [a]) = redL m := by simpa [invL] using this
    rw [e2, redL_of_rd]
    by_cases hm : m = []
    · subst hm; trivial
    · exact ((rd_append hm (by simp)).1 h).1
  · rename_i e
    refine redL_of_rd ((rd_append (by simp) (by simp)).2 ⟨h, trivial, ?_⟩)
    rw [nth_append, List.length_append, if_neg (by simp)]
    simp [nth]; omega
end Go.Proofs.Ytnmklkjlcpgjmaa

namespace Go.Proofs.Ytnmklkjlcpgjmaa
open Go.RowKit Go.Sl

/-- The first k and the last k elements have been exchanged. -/
def Turning (xs : List Int) (k : Nat) (zs : List Int) : Prop := zs.length = xs.length ∧ ∀ p, p < xs.length → nth zs p = if p < k ∨ xs.length - k ≤ p then nth xs (xs.length - 1 - p) else nth xs p
theorem Turning.step {xs zs : List Int} {k j : Nat} (h : Turning xs k zs) (hj : j + k + 1 = xs.length) (hk : k < j) : Turning xs (k + 1) ((zs.set k (nth zs j)).set j (nth zs k)) := by
  obtain ⟨hl, hz⟩ := h
  refine ⟨by simp [hl], fun p hp => ?_⟩
  have e1 : nth zs j = nth xs j := by rw [hz j (by omega), if_neg (by omega)]
  have e2 : nth zs k = nth xs k := by rw [hz k (by omega), if_neg (by omega)]
  by_cases h1 : p = j
  · subst h1
    rw [nth_set_same _ (by simp; omega), e2, if_pos (by omega)]
    congr 1; omega
  · rw [nth_set_other _ (by omega)]
    by_cases h2 : p = k
    · subst h2
      rw [nth_set_same _ (by omega), e1, if_pos (by omega)]
      congr 1; omega
    · rw [nth_set_other _ (by omega), hz p hp]
      by_cases h3 : p < k ∨ xs.length - k ≤ p
      · rw [if_pos h3, if_pos (by omega)]
      · rw [if_neg h3, if_neg (by omega)]
theorem nth_rev (xs : List Int) (p : Nat) (h : p < xs.length) : nth xs.reverse p = nth xs (xs.length - 1 - p) := by
  rw [nth_lt (by simpa using h), nth_lt (by omega), List.getElem_reverse]
theorem Turning.done {xs zs : List Int} {k : Nat} (h : Turning xs k zs) (hk : xs.length ≤ 2 * k + 1) : zs = xs.reverse := by
  obtain ⟨hl, hz⟩ := h
  refine ext_nth (by simp [hl]) fun p hp => ?_
  rw [hl] at hp
  rw [hz p hp, nth_rev xs p hp]
  split
  · rfl
  · congr 1; omega

end Go.Proofs.Ytnmklkjlcpgjmaa

namespace Go.Proofs.Ytnmklkjlcpgjmaa
open Go.ChangeShapes Go.WideShapes Go.ChangeAt Go.RowKit Go.Sl

theorem own_knob : ownKnob Try.prog.godebug = none := by kernel_rfl
theorem laid_out : laidOutB Try.prog = true := by kernel_rfl
theorem cells_int : Try.prog.cellsOf 3 = 1 := by kernel_rfl

theorem wf_bounds {n : Int} (h : (Lit.int .i64 n).wf = true) : I64 n := by
  have h1 : IntKind.i64.min = -9223372036854775808 := rfl
  have h2 : IntKind.i64.max = 9223372036854775807 := rfl
  simp only [Lit.wf, Bool.and_eq_true, decide_eq_true_eq] at h
  unfold I64
  omega

set_option maxRecDepth 100000 in
theorem arg_int {H : Type} {enc : TypeId × Value → H} {W : World} {base b0 : Nat} {v : Value} {d : DataW H} {ps : List MemPlace} (hv : Value.okWide Try.prog W .any base 3 v)
    (h : DataW.Trod enc Try.prog W b0 (fun _ => true) true 3 v d ps) : ∃ n : Int, v = .int .i64 n ∧ I64 n := by
  obtain ⟨n, rfl, _, _, wn⟩ := open_int Try.underlying3 hv h
  exact ⟨n, rfl, wf_bounds wn⟩

set_option maxRecDepth 100000 in
theorem arg_ints {H : Type} {enc : TypeId × Value → H} {W : World} {base b0 : Nat} {v : Value} {d : DataW H} {ps : List MemPlace} (hv : Value.okWide Try.prog W .any base 22 v)
    (h : DataW.Trod enc Try.prog W b0 (fun _ => true) true 22 v d ps) : ∃ xs : List Int, Ints W v xs ∧ ∀ x ∈ xs, I64 x := by
  obtain ⟨a0, len, cap, rfl⟩ := okWide_slice Try.underlying22 hv
  obtain ⟨fuel, hf⟩ := h
  rcases open_ints Try.underlying22 Try.underlying3 cells_int hf with ⟨hcs, hx⟩ | ⟨a, len', cap', zs, hcs, _, hl, hm, hz, hx, hcell, hwz⟩
  · simp [Value.cells] at hcs
    obtain ⟨rfl, rfl, rfl⟩ := hcs
    exact ⟨[], ints_nil W, by simp⟩
  · simp [Value.cells] at hcs
    obtain ⟨rfl, rfl, rfl⟩ := hcs
    simp only [if_true] at hz
    refine ⟨zs.take len, ⟨⟨rfl, hl, hm, fun h0 => ?_⟩, by simp; omega, fun j u hu => ?_⟩, fun x hx => wf_bounds (hwz x (List.mem_of_mem_take hx))⟩
    · simp only [vcap_mk] at h0
      obtain ⟨b, off, spot⟩ := a
      have hspot : spot = none := by simpa [Addr.add] using World.cell?_spot (hcell 0 (by omega))
      subst hspot
      rfl
    · have hj : j < len := by
        have := (List.getElem?_eq_some_iff.1 hu).1
        simp at this; omega
      obtain ⟨b, off, spot⟩ := a
      have hspot : spot = none := by simpa [Addr.add] using World.cell?_spot (hcell 0 (by omega))
      subst hspot
      have h1 := hcell j (by omega)
      rw [Addr.add_lit] at h1
      rw [vat_mk, h1]
      rw [List.map_take, List.getElem?_take, if_pos hj] at hu
      simp at hu
      obtain ⟨a, ha, rfl⟩ := hu
      simp [List.getD, ha]

end Go.Proofs.Ytnmklkjlcpgjmaa


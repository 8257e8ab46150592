/- Slices of ints in this program: the laws of XSl at []int, and the smallest functions. -/
import Derived.Test.YtnmklkjlcpgjmaaQDehornoyRelations0

namespace Go.Proofs.Ytnmklkjlcpgjmaa
open Go.RowKit Go.Sl

theorem info_int : (Try.prog.info? 3).map (fun i => (i.zero, i.size, i.bytes)) = some (some (.int .i64 0), 1, 8) := by kernel_rfl

/-- Element k of a list of numbers. -/
def nth (xs : List Int) (k : Nat) : Int := xs.getD k 0
theorem nth_lt {xs : List Int} {k : Nat} (h : k < xs.length) : nth xs k = xs[k] := by simp [nth, h]

/-- The slice reads as this list of numbers. -/
def Ints (w : World) (v : Value) (xs : List Int) : Prop := Sl w v 1 (xs.map (Value.int .i64))
/-- The slice is the call's own, and reads as this list of numbers. -/
def OwnI (w : World) (B : Nat) (v : Value) (xs : List Int) : Prop := Own w B 3 1 v (xs.map (Value.int .i64))

section
variable {w w' : World} {v : Value} {xs : List Int} {B : Nat}
theorem Ints.isSl (h : Ints w v xs) : IsSl v := h.1
theorem Ints.len (h : Ints w v xs) : vlen v = xs.length := by have := h.2.1; simp at this; omega
theorem Ints.cell (h : Ints w v xs) {k : Nat} (hk : k < xs.length) : w.cell? (vat v k) = some (.int .i64 (nth xs k)) := by
  have := Sl.cell h (j := k) (by simpa using hk)
  rw [this, nth_lt hk]; simp
theorem Ints.below (h : Ints w v xs) (hb : Below w.heap.size w w') : Ints w' v xs := Sl.below h hb
theorem Ints.alloc (h : Ints w v xs) (o : Obj) : Ints (w.alloc o) v xs := Sl.alloc h o
theorem ints_nil (w : World) : Ints w (.slice none 0 0) [] := sl_nil w 1
theorem ownI_nil (w : World) (B : Nat) : OwnI w B (.slice none 0 0) [] := own_nil w B _ 1
theorem OwnI.ints (h : OwnI w B v xs) : Ints w v xs := Own.sl h
theorem OwnI.lt (h : OwnI w B v xs) : ∀ k, row v = some k → B ≤ k ∧ k < w.heap.size := Own.lt h
theorem OwnI.isSl (h : OwnI w B v xs) : IsSl v := h.1
theorem OwnI.len (h : OwnI w B v xs) : vlen v = xs.length := h.ints.len
theorem OwnI.cell (h : OwnI w B v xs) {k : Nat} (hk : k < xs.length) : w.cell? (vat v k) = some (.int .i64 (nth xs k)) := h.ints.cell hk
theorem OwnI.frozen (h : OwnI w B v xs) {k : Nat} (hk : k < xs.length) : w.frozen? (vat v k) = false := Own.frozen h (by simpa using hk)
theorem OwnI.ge (h : OwnI w B v xs) {k : Nat} (hk : k < xs.length) : B ≤ (vat v k).block := Own.ge h (by simpa using hk)
theorem OwnI.set (h : OwnI w B v xs) {k : Nat} (hk : k < xs.length) (x : Int) : OwnI (w.setCell (vat v k) (.int .i64 x)) B v (xs.set k x) := by
  have := Own.set h (j := k) (by simpa using hk) (.int .i64 x)
  unfold OwnI
  rwa [List.map_set]
theorem OwnI.alloc (h : OwnI w B v xs) (o : Obj) : OwnI (w.alloc o) B v xs := Own.alloc h o
theorem OwnI.low (h : OwnI w B v xs) {B' : Nat} (hB : B' ≤ B) : OwnI w B' v xs := Own.low h hB
theorem OwnI.below (h : OwnI w B v xs) (hb : Below w.heap.size w w') : OwnI w' B v xs := Own.below h hb
theorem OwnI.grown (h : OwnI w B v xs) {r : Option Nat} (hg : w.grownBy w' r) (hr : ∀ k, row v = some k → r ≠ some k) : OwnI w' B v xs := Own.grown h hg hr
theorem Ints.grown (h : Ints w v xs) {r : Option Nat} (hg : w.grownBy w' r) (hr : ∀ k, r = some k → vblk v ≠ k) : Ints w' v xs := Sl.grown h hg hr
theorem Ints.cut (h : Ints w v xs) {l r m : Nat} (h1 : l ≤ r) (h2 : r ≤ xs.length) (h3 : r ≤ m) (h4 : m ≤ vcap v) : Ints w (vcut v l r m 1) ((xs.drop l).take (r - l)) := by
  have := Sl.cut h (l := l) (r := r) (m := m) h1 (by rw [h.len]; exact h2) h3 h4
  unfold Ints
  rw [List.map_take, List.map_drop]
  simpa using this
theorem Ints.cap (h : Ints w v xs) : xs.length ≤ vcap v := by rw [← h.len]; exact h.1.le
theorem OwnI.setOther (h : OwnI w B v xs) {p : Addr} (hp : ∀ k, row v = some k → p.block ≠ k) (u : Value) : OwnI (w.setCell p u) B v xs := Own.setOther h hp u
theorem Ints.setOther (h : Ints w v xs) {p : Addr} (hp : p.block ≠ vblk v) (u : Value) : Ints (w.setCell p u) v xs := Sl.setOther h hp u
end

theorem ret_int' {k : IntKind} {a b : Int} (h : a = b) : Ending.returned (.int k a) = .returned (.int k b) := by rw [h]

/-- append of one number. -/
theorem wpList_push {w : World} {ops : Array Oper} {rest : List Oper} {o : Oper} {a : Act} {Q : Exit → Act → World → Prop} (hgd : o.guard = none) (s x : Operand)
    (ho : o.op = .call { callee := .builtin .append, args := #[s, x], argTypes := #[22, 22] })
    {B : Nat} {v : Value} {xs : List Int} {z : Int} (hs : a.eval s = v) (hx : a.eval x = .slice (some ⟨w.heap.size, 0, none⟩) 1 1) (hown : OwnI w B v xs) (hB : B ≤ w.heap.size) (hlen : xs.length ≤ 1000000000000)
    (h : ∀ v' w', OwnI w' B v' (xs ++ [z]) → w.grownBy w' (row v) → (∀ k, row v' = some k → row v = some k ∨ w.heap.size ≤ k) → wpList Try.prog ops Q rest (a.put o.dst v') w') :
    wpList Try.prog ops Q (o :: rest) a (w.alloc (.cells #[.int .i64 z] 3)) := by
  obtain ⟨i, hi, hz0, hz1, hz2⟩ := info_parts info_int
  have hl := hown.len
  refine wpList_append_sl hgd s x _ ho B 3 i (.int .i64 0) 1 8 Try.underlying22 hi hz0 hz1 hz2 rfl (by decide) hs hx (Own.alloc hown _) (sl_one w (.int .i64 z) 3)
    (by intro u hu; simp at hu; subst hu; rfl) (by simp only [vlen_mk, hl, maxLen]; omega) (by simp only [vlen_mk, hl]; omega) (by simp; omega) ?_
  intro v' w' h1 h2 h3
  refine h v' w' (by unfold OwnI; simpa using h1) ?_ ?_
  · exact ⟨h2.os, h2.tape, h2.output, by have := h2.size; simp at this; omega, fun k hk hr => (h2.block k (by simp; omega) hr).trans (Below.heap_alloc w _ k hk)⟩
  · intro k hk; rcases h3 k hk with h | h
    · exact .inl h
    · exact .inr (by simp at h; omega)

/-- append of a whole slice of numbers. -/
theorem wpList_concat {w : World} {ops : Array Oper} {rest : List Oper} {o : Oper} {a : Act} {Q : Exit → Act → World → Prop} (hgd : o.guard = none) (s x : Operand)
    (ho : o.op = .call { callee := .builtin .append, args := #[s, x], argTypes := #[22, 22] })
    {B : Nat} {v y : Value} {xs ys : List Int} (hs : a.eval s = v) (hx : a.eval x = y) (hown : OwnI w B v xs) (hy : Ints w y ys) (hB : B ≤ w.heap.size) (hlen : xs.length + ys.length ≤ 1000000000000)
    (h : ∀ v' w', OwnI w' B v' (xs ++ ys) → w.grownBy w' (row v) → (∀ k, row v' = some k → row v = some k ∨ w.heap.size ≤ k) → wpList Try.prog ops Q rest (a.put o.dst v') w') :
    wpList Try.prog ops Q (o :: rest) a w := by
  obtain ⟨i, hi, hz0, hz1, hz2⟩ := info_parts info_int
  have hl := hown.len
  have hl' := hy.len
  refine wpList_append_sl hgd s x _ ho B 3 i (.int .i64 0) 1 8 Try.underlying22 hi hz0 hz1 hz2 rfl (by decide) hs hx hown hy
    (by intro u hu; obtain ⟨_, _, rfl⟩ := List.mem_map.1 hu; rfl) (by rw [hl, hl']; simp only [maxLen]; omega) (by rw [hl, hl']; omega) hB ?_
  intro v' w' h1 h2 h3
  exact h v' w' (by unfold OwnI; simpa using h1) h2 h3

theorem ownI_build (w : World) (B : Nat) (xs : List Int) (h : B ≤ w.heap.size) (hl : xs.length ≤ 1000000) : OwnI (w.alloc (.cells (xs.map (Value.int .i64)).toArray 3)) B (.slice (some ⟨w.heap.size, 0, none⟩) xs.length xs.length) xs :=
  ⟨isSl_mk _ _ _ _ (Nat.le_refl _) (by unfold maxLen; omega), by simp, fun _ => ⟨h, rfl, _, heap_alloc_new w _, by simp, List.take_of_length_le (by simp)⟩⟩
theorem ownI_lit {w : World} {B b n : Nat} {cs : Array Value} (xs : List Int) (hb : b = w.heap.size) (hn : n = xs.length) (hc : cs = (xs.map (Value.int .i64)).toArray) (hl : xs.length ≤ 1000000) (hB : B ≤ w.heap.size) :
    OwnI (w.alloc (.cells cs 3)) B (.slice (some ⟨b, 0, none⟩) n n) xs := by
  subst hb hn hc; exact ownI_build w B xs hB hl
theorem ints_lit {w : World} {b n : Nat} {cs : Array Value} (xs : List Int) (hb : b = w.heap.size) (hn : n = xs.length) (hc : cs = (xs.map (Value.int .i64)).toArray) (hl : xs.length ≤ 1000000) :
    Ints (w.alloc (.cells cs 3)) (.slice (some ⟨b, 0, none⟩) n n) xs := (ownI_lit (B := 0) xs hb hn hc hl (Nat.zero_le _)).ints

theorem Below_of_grown {w0 w w' : World} {B : Nat} {r : Option Nat} (h : Below B w0 w) (hg : w.grownBy w' r) (hB : B ≤ w.heap.size) (hr : ∀ k, r = some k → B ≤ k) : Below B w0 w' := h.grown hg hB hr

end Go.Proofs.Ytnmklkjlcpgjmaa


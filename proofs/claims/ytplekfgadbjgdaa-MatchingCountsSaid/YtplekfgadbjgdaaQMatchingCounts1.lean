/- Planar matchings on at most 6 strands: the tables (printed by gen_matlaw.py; the kernel checks them). -/
import Derived.Test.YtplekfgadbjgdaaQMatchingCounts0

namespace Go.TL

def lnAt (L : List (List Nat)) (i : Nat) : List Nat := L.getD i []
def addLn (L : List (List Nat)) (a b : Nat) : List (List Nat) := (L.set a (lnAt L a ++ [b])).set b (lnAt (L.set a (lnAt L a ++ [b])) b ++ [a])
def find (p : Nat) : List Nat → Nat → Option Nat
  | [], _ => none
  | x :: l, i => if x = p then some i else find p l (i + 1)
/-- Follows lines and takes them away. -/
def tlWalk : Nat → List (List Nat) → Nat → Option (Nat × List (List Nat))
  | 0, L, p => match lnAt L p with
    | [] => some (p, L)
    | _ :: _ => none
  | f + 1, L, p => match lnAt L p with
    | [] => some (p, L)
    | q :: rest =>
      if q < L.length then
        match find p (lnAt (L.set p rest) q) 0 with
        | none => none
        | some i => tlWalk f ((L.set p rest).set q ((lnAt (L.set p rest) q).eraseIdx i)) q
      else none
/-- Counts the loops, for the points from p on. -/
def tlLoops : Nat → List (List Nat) → Nat → Nat → Option Nat
  | 0, _, _, c => some c
  | k + 1, L, p, c => match lnAt L p with
    | [] => tlLoops k L (p + 1) c
    | _ :: _ => match tlWalk 40 L p with
      | none => none
      | some (_, L') => tlLoops k L' (p + 1) (c + 1)
def putLines (n : Nat) (a b : List Nat) : Nat → List (List Nat)
  | 0 => List.replicate (3 * n) []
  | i + 1 =>
    let L := putLines n a b i
    let L1 := if i < a.getD i 0 then addLn L i (a.getD i 0) else L
    if i < b.getD i 0 then addLn L1 (n + i) (n + b.getD i 0) else L1
def pnt (n p : Nat) : Nat := if n ≤ p then p - n else p
def putEnds (n : Nat) : Nat → List (List Nat) → Nat → List Nat → Option (List Nat × List (List Nat))
  | 0, L, _, out => some (out, L)
  | k + 1, L, p, out =>
    if p < n ∨ 2 * n ≤ p then
      match lnAt L p with
      | [] => putEnds n k L (p + 1) out
      | _ :: _ => match tlWalk 40 L p with
        | none => none
        | some (q, L') => putEnds n k L' (p + 1) ((out.set (pnt n p) (pnt n q)).set (pnt n q) (pnt n p))
    else putEnds n k L (p + 1) out
/-- a on top of b, and the number of loops. -/
def putL (n : Nat) (a b : List Nat) : Option (List Nat × Nat) :=
  match putEnds n (3 * n) (putLines n a b (2 * n)) 0 (List.replicate (2 * n) 0) with
  | none => none
  | some (out, L) => match tlLoops (3 * n) L 0 0 with
    | none => none
    | some c => some (out, c)
def closeLines (n : Nat) (d : List Nat) : Nat → List (List Nat)
  | 0 => List.replicate (2 * n) []
  | i + 1 =>
    let L := closeLines n d i
    let L1 := if i < d.getD i 0 then addLn L i (d.getD i 0) else L
    if i < n then addLn L1 i (n + i) else L1
def closeL (n : Nat) (d : List Nat) : Option Nat := tlLoops (2 * n) (closeLines n d (2 * n)) 0 0
def oneL (n : Nat) : List Nat := (List.range (2 * n)).map fun i => if i < n then n + i else i - n
def cupL (n i : Nat) : List Nat := ((((oneL n).set (i - 1) i).set i (i - 1)).set (n + i - 1) (n + i)).set (n + i) (n + i - 1)

end Go.TL

namespace Go.Proofs.Ytplekfgadbjgdaa
open Go.RowKit Go.Sl

theorem info_int : (Try.prog.info? 3).map (fun i => (i.zero, i.size, i.bytes)) = some (some (.int .i64 0), 1, 8) := by kernel_rfl

/-- Element k of a list of numbers. -/
def nth (xs : List Int) (k : Nat) : Int := xs.getD k 0
theorem nth_lt {xs : List Int} {k : Nat} (h : k < xs.length) : nth xs k = xs[k] := by simp [nth, h]

/-- The slice reads as this list of numbers. -/
def Ints (w : World) (v : Value) (xs : List Int) : Prop := Sl w v 1 (xs.map (Value.int .i64))
/-- The slice is the call's own, and reads as this list of numbers. -/
def OwnI (w : World) (B : Nat) (v : Value) (xs : List Int) : Prop := Own w B 3 1 v (xs.map (Value.int .i64))

section
variable {w w' : World} {v : Value} {xs : List Int} {B : Nat}
theorem Ints.isSl (h : Ints w v xs) : IsSl v := h.1
theorem Ints.len (h : Ints w v xs) : vlen v = xs.length := by have := h.2.1; simp at this; omega
theorem Ints.cell (h : Ints w v xs) {k : Nat} (hk : k < xs.length) : w.cell? (vat v k) = some (.int .i64 (nth xs k)) := by
  have := Sl.cell h (j := k) (by simpa using hk)
  rw [this, nth_lt hk]; simp
theorem Ints.below (h : Ints w v xs) (hb : Below w.heap.size w w') : Ints w' v xs := Sl.below h hb
theorem Ints.alloc (h : Ints w v xs) (o : Obj) : Ints (w.alloc o) v xs := Sl.alloc h o
theorem ints_nil (w : World) : Ints w (.slice none 0 0) [] := sl_nil w 1
theorem ownI_nil (w : World) (B : Nat) : OwnI w B (.slice none 0 0) [] := own_nil w B _ 1
theorem OwnI.ints (h : OwnI w B v xs) : Ints w v xs := Own.sl h
theorem OwnI.lt (h : OwnI w B v xs) : ∀ k, row v = some k → B ≤ k ∧ k < w.heap.size := Own.lt h
theorem OwnI.isSl (h : OwnI w B v xs) : IsSl v := h.1
theorem OwnI.len (h : OwnI w B v xs) : vlen v = xs.length := h.ints.len
theorem OwnI.cell (h : OwnI w B v xs) {k : Nat} (hk : k < xs.length) : w.cell? (vat v k) = some (.int .i64 (nth xs k)) := h.ints.cell hk
theorem OwnI.frozen (h : OwnI w B v xs) {k : Nat} (hk : k < xs.length) : w.frozen? (vat v k) = false := Own.frozen h (by simpa using hk)
theorem OwnI.ge (h : OwnI w B v xs) {k : Nat} (hk : k < xs.length) : B ≤ (vat v k).block := Own.ge h (by simpa using hk)
theorem OwnI.set (h : OwnI w B v xs) {k : Nat} (hk : k < xs.length) (x : Int) : OwnI (w.setCell (vat v k) (.int .i64 x)) B v (xs.set k x) := by
  have := Own.set h (j := k) (by simpa using hk) (.int .i64 x)
  unfold OwnI
  rwa [List.map_set]
theorem OwnI.alloc (h : OwnI w B v xs) (o : Obj) : OwnI (w.alloc o) B v xs := Own.alloc h o
theorem OwnI.low (h : OwnI w B v xs) {B' : Nat} (hB : B' ≤ B) : OwnI w B' v xs := Own.low h hB
theorem OwnI.below (h : OwnI w B v xs) (hb : Below w.heap.size w w') : OwnI w' B v xs := Own.below h hb
theorem OwnI.grown (h : OwnI w B v xs) {r : Option Nat} (hg : w.grownBy w' r) (hr : ∀ k, row v = some k → r ≠ some k) : OwnI w' B v xs := Own.grown h hg hr
theorem Ints.grown (h : Ints w v xs) {r : Option Nat} (hg : w.grownBy w' r) (hr : ∀ k, r = some k → vblk v ≠ k) : Ints w' v xs := Sl.grown h hg hr
theorem Ints.cut (h : Ints w v xs) {l r m : Nat} (h1 : l ≤ r) (h2 : r ≤ xs.length) (h3 : r ≤ m) (h4 : m ≤ vcap v) : Ints w (vcut v l r m 1) ((xs.drop l).take (r - l)) := by
  have := Sl.cut h (l := l) (r := r) (m := m) h1 (by rw [h.len]; exact h2) h3 h4
  unfold Ints
  rw [List.map_take, List.map_drop]
  simpa using this
theorem Ints.cap (h : Ints w v xs) : xs.length ≤ vcap v := by rw [← h.len]; exact h.1.le
theorem OwnI.setOther (h : OwnI w B v xs) {p : Addr} (hp : ∀ k, row v = some k → p.block ≠ k) (u : Value) : OwnI (w.setCell p u) B v xs := Own.setOther h hp u
theorem Ints.setOther (h : Ints w v xs) {p : Addr} (hp : p.block ≠ vblk v) (u : Value) : Ints (w.setCell p u) v xs := Sl.setOther h hp u
end

/-- A list that is written from its head on: the first k numbers are there, the others are still 0. -/
def fill (f : List Int) (k : Nat) : List Int := f.take k ++ List.replicate (f.length - k) 0
theorem ret_int' {k : IntKind} {a b : Int} (h : a = b) : Ending.returned (.int k a) = .returned (.int k b) := by rw [h]

/-- append of one number. -/
theorem wpList_push {w : World} {ops : Array Oper} {rest : List Oper} {o : Oper} {a : Act} {Q : Exit → Act → World → Prop} (hgd : o.guard = none) (s x : Operand)
    (ho : o.op = .call { callee := .builtin .append, args := #[s, x], argTypes := #[22, 22] })
    {B : Nat} {v : Value} {xs : List Int} {z : Int} (hs : a.eval s = v) (hx : a.eval x = .slice (some ⟨w.heap.size, 0, none⟩) 1 1) (hown : OwnI w B v xs) (hB : B ≤ w.heap.size) (hlen : xs.length ≤ 1000000000000)
    (h : ∀ v' w', OwnI w' B v' (xs ++ [z]) → w.grownBy w' (row v) → (∀ k, row v' = some k → row v = some k ∨ w.heap.size ≤ k) → wpList Try.prog ops Q rest (a.put o.dst v') w') :
    wpList Try.prog ops Q (o :: rest) a (w.alloc (.cells #[.int .i64 z] 3)) := by
  obtain ⟨i, hi, hz0, hz1, hz2⟩ := info_parts info_int
  have hl := hown.len
  refine wpList_append_sl hgd s x _ ho B 3 i (.int .i64 0) 1 8 Try.underlying22 hi hz0 hz1 hz2 rfl (by decide) hs hx (Own.alloc hown _) (sl_one w (.int .i64 z) 3)
    (by intro u hu; simp at hu; subst hu; rfl) (by simp only [vlen_mk, hl, maxLen]; omega) (by simp only [vlen_mk, hl]; omega) (by simp; omega) ?_
  intro v' w' h1 h2 h3
  refine h v' w' (by unfold OwnI; simpa using h1) ?_ ?_
  · exact ⟨h2.os, h2.tape, h2.output, by have := h2.size; simp at this; omega, fun k hk hr => (h2.block k (by simp; omega) hr).trans (Below.heap_alloc w _ k hk)⟩
  · intro k hk; rcases h3 k hk with h | h
    · exact .inl h
    · exact .inr (by simp at h; omega)

/-- append of a whole slice of numbers. -/
theorem wpList_concat {w : World} {ops : Array Oper} {rest : List Oper} {o : Oper} {a : Act} {Q : Exit → Act → World → Prop} (hgd : o.guard = none) (s x : Operand)
    (ho : o.op = .call { callee := .builtin .append, args := #[s, x], argTypes := #[22, 22] })
    {B : Nat} {v y : Value} {xs ys : List Int} (hs : a.eval s = v) (hx : a.eval x = y) (hown : OwnI w B v xs) (hy : Ints w y ys) (hB : B ≤ w.heap.size) (hlen : xs.length + ys.length ≤ 1000000000000)
    (h : ∀ v' w', OwnI w' B v' (xs ++ ys) → w.grownBy w' (row v) → (∀ k, row v' = some k → row v = some k ∨ w.heap.size ≤ k) → wpList Try.prog ops Q rest (a.put o.dst v') w') :
    wpList Try.prog ops Q (o :: rest) a w := by
  obtain ⟨i, hi, hz0, hz1, hz2⟩ := info_parts info_int
  have hl := hown.len
  have hl' := hy.len
  refine wpList_append_sl hgd s x _ ho B 3 i (.int .i64 0) 1 8 Try.underlying22 hi hz0 hz1 hz2 rfl (by decide) hs hx hown hy
    (by intro u hu; obtain ⟨_, _, rfl⟩ := List.mem_map.1 hu; rfl) (by rw [hl, hl']; simp only [maxLen]; omega) (by rw [hl, hl']; omega) hB ?_
  intro v' w' h1 h2 h3
  exact h v' w' (by unfold OwnI; simpa using h1) h2 h3

theorem ownI_build (w : World) (B : Nat) (xs : List Int) (h : B ≤ w.heap.size) (hl : xs.length ≤ 1000000) : OwnI (w.alloc (.cells (xs.map (Value.int .i64)).toArray 3)) B (.slice (some ⟨w.heap.size, 0, none⟩) xs.length xs.length) xs :=
  ⟨isSl_mk _ _ _ _ (Nat.le_refl _) (by unfold maxLen; omega), by simp, fun _ => ⟨h, rfl, _, heap_alloc_new w _, by simp, List.take_of_length_le (by simp)⟩⟩
theorem ownI_lit {w : World} {B b n : Nat} {cs : Array Value} (xs : List Int) (hb : b = w.heap.size) (hn : n = xs.length) (hc : cs = (xs.map (Value.int .i64)).toArray) (hl : xs.length ≤ 1000000) (hB : B ≤ w.heap.size) :
    OwnI (w.alloc (.cells cs 3)) B (.slice (some ⟨b, 0, none⟩) n n) xs := by
  subst hb hn hc; exact ownI_build w B xs hB hl
theorem ints_lit {w : World} {b n : Nat} {cs : Array Value} (xs : List Int) (hb : b = w.heap.size) (hn : n = xs.length) (hc : cs = (xs.map (Value.int .i64)).toArray) (hl : xs.length ≤ 1000000) :
    Ints (w.alloc (.cells cs 3)) (.slice (some ⟨b, 0, none⟩) n n) xs := (ownI_lit (B := 0) xs hb hn hc hl (Nat.zero_le _)).ints

/-- make of a slice of numbers. -/
theorem wpList_make {w : World} {ops : Array Oper} {rest : List Oper} {o : Oper} {a : Act} {Q : Exit → Act → World → Prop} (hgd : o.guard = none) (l c : Operand) (ho : o.op = Op.makeSlice 22 l c)
    (L C : Int) (n : Nat) (hl : a.eval l = .int .i64 L) (hc : a.eval c = .int .i64 C) (hL : L = (n : Int)) (hC : C = (n : Int)) (hm : n ≤ 1000000000000)
    (h : ∀ v' w', OwnI w' w.heap.size v' (List.replicate n 0) → w.grownBy w' none → vlen v' = n → w'.heap.size = w.heap.size + 1 → wpList Try.prog ops Q rest (a.put o.dst v') w') : wpList Try.prog ops Q (o :: rest) a w := by
  obtain ⟨i, hi, hz0, hz1, hz2⟩ := info_parts info_int
  refine wpList_make_sl hgd l c _ ho 3 i (.int .i64 0) 8 Try.underlying22 hi hz0 hz1 hz2 rfl L C n hl hc hL hC (by omega) (by simp only [maxLen]; omega) ?_
  intro v' w' h1 h2 h3 h4
  exact h v' w' (by unfold OwnI; simpa using h1) h2 h3 h4

theorem Below_of_grown {w0 w w' : World} {B : Nat} {r : Option Nat} (h : Below B w0 w) (hg : w.grownBy w' r) (hB : B ≤ w.heap.size) (hr : ∀ k, r = some k → B ≤ k) : Below B w0 w' := h.grown hg hB hr

theorem info_slice : (Try.prog.info? 22).map (fun i => (i.zero, i.size, i.bytes)) = some (some (.slice none 0 0), 1, 24) := by kernel_rfl
theorem below_grown_none {w0 w w' : World} (h : Below w0.heap.size w0 w) (hg : w.grownBy w' none) : Below w0.heap.size w0 w' := h.grown hg h.size (by intro k hk; cases hk)

end Go.Proofs.Ytplekfgadbjgdaa

namespace Go.TL

def force (N : Nat) (f : Nat → Nat) : Nat := match N with
  | 0 => f 0
  | k + 1 => f (Nat.succ k)
theorem force_eq (N : Nat) (f : Nat → Nat) : force N f = f N := by cases N <;> rfl
/-- row i of the code N: two entries of 5 bits (0: none) -/
def row (N i : Nat) : Nat := Nat.mod (Nat.shiftRight N (Nat.mul 10 i)) 1024
/-- x behind row i; k goes on with it; 0 if there is no room -/
def app (N i x : Nat) (k : Nat → Nat) : Nat :=
  force (row N i) fun r =>
  bif Nat.beq r 0 then force (Nat.add N (Nat.shiftLeft (Nat.succ x) (Nat.mul 10 i))) k
  else bif Nat.ble r 31 then force (Nat.add N (Nat.shiftLeft (Nat.succ x) (Nat.add (Nat.mul 10 i) 5))) k else 0
def fline (N a b : Nat) (k : Nat → Nat) : Nat := app N a b fun M => app M b a k
def flineIf (c : Bool) (N a b : Nat) (k : Nat → Nat) : Nat := bif c then fline N a b k else k N
def flines (n : Nat) : List Nat → List Nat → Nat → Nat → (Nat → Nat) → Nat
  | [], _, _, N, k => k N
  | _ :: _, [], _, _, _ => 0
  | x :: A, y :: B, i, N, k => flineIf (Nat.ble (Nat.succ i) x) N i x fun M => flineIf (Nat.ble (Nat.succ i) y) M (Nat.add n i) (Nat.add n y) fun M => flines n A B (Nat.succ i) M k
/-- walk, then k on the end and the new code -/
def fwalk : Nat → Nat → Nat → (Nat → Nat → Nat) → Nat
  | 0, _, _, _ => 0
  | f + 1, N, p, k => match row N p with
    | 0 => k p N
    | r1 + 1 =>
      force (Nat.mod r1 32) fun q =>
      force (Nat.sub N (Nat.shiftLeft (Nat.sub (Nat.succ r1) (Nat.shiftRight (Nat.succ r1) 5)) (Nat.mul 10 p))) fun M =>
      force (row M q) fun s =>
      bif Nat.beq (Nat.mod s 32) (Nat.succ p) then force (Nat.sub M (Nat.shiftLeft (Nat.sub s (Nat.shiftRight s 5)) (Nat.mul 10 q))) fun M' => fwalk f M' q k
      else bif Nat.beq (Nat.shiftRight s 5) (Nat.succ p) then force (Nat.sub M (Nat.shiftLeft (Nat.sub s (Nat.mod s 32)) (Nat.mul 10 q))) fun M' => fwalk f M' q k
      else 0
def dig (N i : Nat) : Nat := Nat.mod (Nat.shiftRight N (Nat.mul 4 i)) 16
def fpnt (n p : Nat) : Nat := bif Nat.ble n p then Nat.sub p n else p
def setD (O i x : Nat) : Nat := Nat.sub (Nat.add O (Nat.shiftLeft x (Nat.mul 4 i))) (Nat.shiftLeft (dig O i) (Nat.mul 4 i))
def fends (n : Nat) : Nat → Nat → Nat → Nat → (Nat → Nat → Nat) → Nat
  | 0, _, N, O, k => k N O
  | m + 1, p, N, O, k =>
    bif or (Nat.ble (Nat.succ p) n) (Nat.ble (Nat.mul 2 n) p) then match row N p with
      | 0 => fends n m (Nat.succ p) N O k
      | _ + 1 => fwalk 41 N p fun q M =>
        force (setD (setD O (fpnt n p) (fpnt n q)) (fpnt n q) (fpnt n p)) fun O' => fends n m (Nat.succ p) M O' k
    else fends n m (Nat.succ p) N O k
def floops : Nat → Nat → Nat → Nat → (Nat → Nat) → Nat
  | 0, _, _, c, k => k c
  | m + 1, p, N, c, k => match row N p with
    | 0 => floops m (Nat.succ p) N c k
    | _ + 1 => fwalk 41 N p fun _ M => floops m (Nat.succ p) M (Nat.succ c) k
/-- out * 64 + loops + 1; 0: failed -/
def fput (n : Nat) (A B : List Nat) : Nat := flines n A B 0 0 fun N => fends n (Nat.mul 3 n) 0 N 0 fun M O => floops (Nat.mul 3 n) 0 M 0 fun c => Nat.succ (Nat.add (Nat.mul 64 O) c)

def rowC : List Nat → Nat
  | [] => 0
  | [x] => x + 1
  | x :: y :: _ => (x + 1) + 32 * (y + 1)
def encL : List (List Nat) → Nat
  | [] => 0
  | r :: L => rowC r + 1024 * encL L
/-- Rows of at most two entries below m. -/
def ROK (m : Nat) (L : List (List Nat)) : Prop := ∀ r ∈ L, r.length ≤ 2 ∧ ∀ x ∈ r, x < m
theorem rowC_lt {r : List Nat} (h1 : r.length ≤ 2) (h2 : ∀ x ∈ r, x < 31) : rowC r < 1024 := by
  match r, h1, h2 with
  | [], _, _ => simp [rowC]
  | [x], _, h => have := h x (by simp); simp only [rowC]; omega
  | [x, y], _, h => have h1 := h x (by simp); have h2 := h y (by simp); simp only [rowC]; omega
theorem shr10 (N i : Nat) : Nat.shiftRight N (Nat.mul 10 (i + 1)) = Nat.shiftRight (N / 1024) (Nat.mul 10 i) := by
  show N >>> (10 * (i + 1)) = (N / 1024) >>> (10 * i)
  rw [Nat.shiftRight_eq_div_pow, Nat.shiftRight_eq_div_pow, Nat.div_div_eq_div_mul]
  congr 1
  rw [show (1024 : Nat) = 2 ^ 10 by decide, ← Nat.pow_add]; congr 1; omega
theorem lnAt_cons_succ (r : List Nat) (L : List (List Nat)) (i : Nat) : lnAt (r :: L) (i + 1) = lnAt L i := by simp [lnAt]
theorem lnAt_cons_zero (r : List Nat) (L : List (List Nat)) : lnAt (r :: L) 0 = r := by simp [lnAt]
theorem row_enc {m : Nat} (hm : m ≤ 31) : ∀ (L : List (List Nat)), ROK m L → ∀ i, row (encL L) i = rowC (lnAt L i)
  | [], _, i => by
    show (0 >>> (10 * i)) % 1024 = _
    rw [Nat.zero_shiftRight]; simp [lnAt, rowC]
  | r :: L, h, 0 => by
    have := h r (by simp)
    have h1 := rowC_lt this.1 (fun x hx => by have := this.2 x hx; omega)
    show ((rowC r + 1024 * encL L) >>> (10 * 0)) % 1024 = _
    rw [lnAt_cons_zero, Nat.mul_zero, Nat.shiftRight_zero]; omega
  | r :: L, h, i + 1 => by
    have := h r (by simp)
    have h1 := rowC_lt this.1 (fun x hx => by have := this.2 x hx; omega)
    rw [lnAt_cons_succ, ← row_enc hm L (fun r hr => h r (by simp [hr])) i]
    show Nat.mod (Nat.shiftRight (rowC r + 1024 * encL L) (Nat.mul 10 (i + 1))) 1024 = _
    rw [shr10, show (rowC r + 1024 * encL L) / 1024 = encL L by omega]; rfl
theorem shl10 (x i : Nat) : x <<< (10 * (i + 1)) = 1024 * (x <<< (10 * i)) := by
  rw [Nat.shiftLeft_eq, Nat.shiftLeft_eq, show 10 * (i + 1) = 10 * i + 10 by omega, Nat.pow_add, show (2 : Nat) ^ 10 = 1024 by decide, ← Nat.mul_assoc, Nat.mul_comm]
theorem enc_set (r : List Nat) : ∀ (L : List (List Nat)) (i : Nat), i < L.length → encL (L.set i r) + rowC (lnAt L i) <<< (10 * i) = encL L + rowC r <<< (10 * i)
  | s :: L, 0, _ => by rw [lnAt_cons_zero]; simp only [List.set_cons_zero, encL, Nat.mul_zero, Nat.shiftLeft_zero]; omega
  | s :: L, i + 1, h => by
    have := enc_set r L i (by simpa using h)
    rw [lnAt_cons_succ, List.set_cons_succ, shl10, shl10]; simp only [encL]; omega
theorem lnAt_mem {L : List (List Nat)} {i : Nat} (h : i < L.length) : lnAt L i ∈ L := by
  have : lnAt L i = L[i] := by unfold lnAt; rw [List.getD_eq_getElem?_getD, List.getElem?_eq_getElem h]; rfl
  rw [this]; exact List.getElem_mem h
theorem ROK.at {m : Nat} {L : List (List Nat)} (h : ROK m L) (i : Nat) : (lnAt L i).length ≤ 2 ∧ ∀ x ∈ lnAt L i, x < m := by
  by_cases hi : i < L.length
  · exact h _ (lnAt_mem hi)
  · have : lnAt L i = [] := by unfold lnAt; rw [List.getD_eq_getElem?_getD, List.getElem?_eq_none (by omega)]; rfl
    rw [this]; simp
theorem ROK.set {m : Nat} {L : List (List Nat)} (h : ROK m L) (i : Nat) {r : List Nat} (h1 : r.length ≤ 2) (h2 : ∀ x ∈ r, x < m) : ROK m (L.set i r) := fun s hs => by
  rcases List.mem_or_eq_of_mem_set hs with hs | rfl
  · exact h s hs
  · exact ⟨h1, h2⟩
theorem app_of {m : Nat} (hm : m ≤ 31) {L : List (List Nat)} (h : ROK m L) {i x : Nat} (hi : i < L.length) (hx : x < m) {k : Nat → Nat} {v : Nat} (hv : app (encL L) i x k = v) (h0 : v ≠ 0) :
    ROK m (L.set i (lnAt L i ++ [x])) ∧ v = k (encL (L.set i (lnAt L i ++ [x]))) := by
  have he := enc_set (lnAt L i ++ [x]) L i hi
  have hr := h.at i
  unfold app at hv
  rw [force_eq, row_enc hm L h i] at hv
  simp only [force_eq] at hv
  generalize lnAt L i = r at he hr hv ⊢
  match r, hr with
  | [], _ =>
    simp only [rowC, List.nil_append, Nat.zero_shiftLeft, Nat.add_zero] at he
    have e1 : Nat.beq (rowC []) 0 = true := rfl
    rw [e1, cond_true] at hv
    refine ⟨h.set i (by simp) (by simpa using hx), ?_⟩
    rw [List.nil_append, ← hv, he]; rfl
  | [y], hr =>
    have hy := hr.2 y (by simp)
    have e1 : Nat.beq (rowC [y]) 0 = false := rfl
    have e2 : Nat.ble (rowC [y]) 31 = true := by simp only [rowC]; exact Nat.ble_eq_true_of_le (by omega)
    rw [e1, e2, cond_false, cond_true] at hv
    refine ⟨h.set i (by simp) (by simp; omega), ?_⟩
    rw [← hv]
    congr 1
    simp only [rowC, List.singleton_append] at he ⊢
    have e3 : (x + 1) <<< (10 * i + 5) = 32 * ((x + 1) <<< (10 * i)) := by
      rw [Nat.shiftLeft_eq, Nat.shiftLeft_eq, Nat.pow_add, show (2 : Nat) ^ 5 = 32 by decide, ← Nat.mul_assoc, Nat.mul_comm]
    have e4 : (y + 1 + 32 * (x + 1)) <<< (10 * i) = (y + 1) <<< (10 * i) + 32 * ((x + 1) <<< (10 * i)) := by
      rw [Nat.shiftLeft_eq, Nat.shiftLeft_eq, Nat.shiftLeft_eq, Nat.add_mul, Nat.mul_assoc]
    show encL L + (x + 1) <<< (10 * i + 5) = _
    rw [e4] at he
    rw [e3]
    omega
  | [y, z], hr =>
    have e1 : Nat.beq (rowC [y, z]) 0 = false := by simp only [rowC]; rw [show y + 1 + 32 * (z + 1) = (y + 32 * (z + 1)) + 1 by omega]; rfl
    have e2 : Nat.ble (rowC [y, z]) 31 = false := by
      rw [Bool.eq_false_iff]; intro hc; have := Nat.le_of_ble_eq_true hc; simp only [rowC] at this; omega
    rw [e1, e2, cond_false, cond_false] at hv
    exact absurd hv.symm h0

theorem fline_of {m : Nat} (hm : m ≤ 31) {L : List (List Nat)} (h : ROK m L) (hL : L.length ≤ m) {a b : Nat} (ha : a < L.length) (hb : b < L.length) {k : Nat → Nat} {v : Nat} (hv : fline (encL L) a b k = v) (h0 : v ≠ 0) :
    ROK m (addLn L a b) ∧ v = k (encL (addLn L a b)) := by
  unfold fline at hv
  obtain ⟨h1, e1⟩ := app_of hm h ha (show b < m by omega) hv h0
  exact app_of hm h1 (i := b) (x := a) (by simpa using hb) (by omega) e1.symm h0
theorem addLn_len (L : List (List Nat)) (a b : Nat) : (addLn L a b).length = L.length := by simp [addLn]
theorem flineIf_of {m : Nat} (hm : m ≤ 31) {c : Prop} [Decidable c] {L : List (List Nat)} (h : ROK m L) (hL : L.length ≤ m) {a b : Nat} (ha : a < L.length) (hb : b < L.length) {bc : Bool} (hc : bc = true ↔ c) {k : Nat → Nat} {v : Nat}
    (hv : flineIf bc (encL L) a b k = v) (h0 : v ≠ 0) : ROK m (if c then addLn L a b else L) ∧ (if c then addLn L a b else L).length = L.length ∧ v = k (encL (if c then addLn L a b else L)) := by
  unfold flineIf at hv
  by_cases h1 : c
  · rw [hc.2 h1, cond_true] at hv
    rw [if_pos h1]
    have := fline_of hm h hL ha hb hv h0
    exact ⟨this.1, addLn_len _ _ _, this.2⟩
  · have : bc = false := by cases bc; rfl; exact absurd (hc.1 rfl) h1
    rw [this, cond_false] at hv
    rw [if_neg h1]
    exact ⟨h, rfl, hv.symm⟩
theorem putLines_len (n : Nat) (A B : List Nat) (i : Nat) : (putLines n A B i).length = 3 * n := by
  induction i with
  | zero => simp [putLines]
  | succ i ih =>
    rw [putLines]
    split <;> split <;> simp only [addLn_len, ih]
theorem ble_iff (i x : Nat) : Nat.ble (Nat.succ i) x = true ↔ i < x := ⟨Nat.le_of_ble_eq_true, Nat.ble_eq_true_of_le⟩
theorem flines_of {n : Nat} (hn : 3 * n ≤ 31) (A B : List Nat) (hA : A.length = 2 * n) (hB : B.length = 2 * n) (hAb : ∀ i, A.getD i 0 < 2 * n) (hBb : ∀ i, B.getD i 0 < 2 * n) {k : Nat → Nat} :
    ∀ (d i : Nat), i + d = 2 * n → ROK (3 * n) (putLines n A B i) → ∀ v, flines n (A.drop i) (B.drop i) i (encL (putLines n A B i)) k = v → v ≠ 0 →
      ROK (3 * n) (putLines n A B (2 * n)) ∧ v = k (encL (putLines n A B (2 * n))) := by
  intro d
  induction d with
  | zero =>
    intro i hi h v hv h0
    obtain rfl : i = 2 * n := by omega
    rw [List.drop_eq_nil_of_le (by omega), flines] at hv
    exact ⟨h, hv.symm⟩
  | succ d ih =>
    intro i hi h v hv h0
    have hiA : i < A.length := by omega
    have hiB : i < B.length := by omega
    have a1 := hAb i
    have b1 := hBb i
    have eA : A.getD i 0 = A[i] := by rw [List.getD_eq_getElem?_getD, List.getElem?_eq_getElem hiA]; rfl
    have eB : B.getD i 0 = B[i] := by rw [List.getD_eq_getElem?_getD, List.getElem?_eq_getElem hiB]; rfl
    rw [List.drop_eq_getElem_cons hiA, List.drop_eq_getElem_cons hiB, ← eA, ← eB, flines] at hv
    have hl := putLines_len n A B i
    obtain ⟨h1, l1, e1⟩ := flineIf_of hn h (by omega) (a := i) (b := A.getD i 0) (by omega) (by omega) (ble_iff i _) hv h0
    obtain ⟨h2, l2, e2⟩ := flineIf_of hn h1 (by omega) (a := n + i) (b := n + B.getD i 0) (by omega) (by omega) (ble_iff i _) e1.symm h0
    exact ih (i + 1) (by omega) h2 v e2.symm h0

theorem sub_shl (a b s : Nat) : (a - b) <<< s = a <<< s - b <<< s := by rw [Nat.shiftLeft_eq, Nat.shiftLeft_eq, Nat.shiftLeft_eq, Nat.sub_mul]
/-- A row is replaced by a smaller one. -/
theorem enc_less {L : List (List Nat)} {i : Nat} (hi : i < L.length) {r : List Nat} {c d : Nat} (hc : rowC (lnAt L i) = c) (hd : rowC r = d) (hle : d ≤ c) : Nat.sub (encL L) (Nat.shiftLeft (Nat.sub c d) (Nat.mul 10 i)) = encL (L.set i r) := by
  have he := enc_set r L i hi
  show encL L - (c - d) <<< (10 * i) = _
  rw [sub_shl]
  rw [hc, hd] at he
  have : d <<< (10 * i) ≤ c <<< (10 * i) := by rw [Nat.shiftLeft_eq, Nat.shiftLeft_eq]; exact Nat.mul_le_mul_right _ hle
  omega
theorem shr5 (r : Nat) : Nat.shiftRight r 5 = r / 32 := by show r >>> 5 = _; rw [Nat.shiftRight_eq_div_pow]
theorem rowC_rest {q : Nat} {rest : List Nat} (h1 : (q :: rest).length ≤ 2) (h2 : ∀ x ∈ q :: rest, x < 31) : ∃ r1, rowC (q :: rest) = r1 + 1 ∧ Nat.mod r1 32 = q ∧ Nat.shiftRight (r1 + 1) 5 = rowC rest ∧ rowC rest ≤ r1 + 1 := by
  have hq := h2 q (by simp)
  match rest, h1, h2 with
  | [], _, _ => exact ⟨q, rfl, Nat.mod_eq_of_lt (by omega), by rw [shr5]; simp only [rowC]; omega, by simp [rowC]⟩
  | [y], _, h2 =>
    have hy := h2 y (by simp)
    exact ⟨q + 32 * (y + 1), by simp only [rowC]; omega, by show (q + 32 * (y + 1)) % 32 = q; omega, by rw [shr5]; simp only [rowC]; omega, by simp only [rowC]; omega⟩
theorem fwalk_of {m : Nat} (hm : m ≤ 31) : ∀ (f : Nat) (L : List (List Nat)) (p : Nat) (k : Nat → Nat → Nat) (v : Nat), ROK m L → L.length = m → p < m → fwalk (f + 1) (encL L) p k = v → v ≠ 0 →
    ∃ q L', tlWalk f L p = some (q, L') ∧ ROK m L' ∧ L'.length = m ∧ q < m ∧ v = k q (encL L') := by
  intro f
  induction f with
  | zero =>
    intro L p k v h hl hp hv h0
    rw [fwalk, row_enc hm L h p] at hv
    have hr := h.at p
    cases hrow : lnAt L p with
    | nil =>
      rw [hrow] at hv
      exact ⟨p, L, by unfold tlWalk; rw [hrow], h, hl, hp, hv.symm⟩
    | cons q rest =>
      rw [hrow] at hv hr
      obtain ⟨r1, e1, _, _, _⟩ := rowC_rest hr.1 (fun x hx => by have := hr.2 x hx; omega)
      rw [e1] at hv
      simp only [force_eq, fwalk] at hv
      revert hv
      cases Nat.beq (Nat.mod (row ((encL L).sub (((Nat.succ r1).sub ((Nat.succ r1).shiftRight 5)).shiftLeft (Nat.mul 10 p))) (Nat.mod r1 32)) 32) (Nat.succ p) <;>
        cases Nat.beq (Nat.shiftRight (row ((encL L).sub (((Nat.succ r1).sub ((Nat.succ r1).shiftRight 5)).shiftLeft (Nat.mul 10 p))) (Nat.mod r1 32)) 5) (Nat.succ p) <;>
        (intro hv; exact absurd hv.symm h0)
  | succ f ih =>
    intro L p k v h hl hp hv h0
    rw [fwalk, row_enc hm L h p] at hv
    have hr := h.at p
    cases hrow : lnAt L p with
    | nil =>
      rw [hrow] at hv
      exact ⟨p, L, by unfold tlWalk; rw [hrow], h, hl, hp, hv.symm⟩
    | cons q rest =>
      rw [hrow] at hv hr
      have hq := hr.2 q (by simp)
      obtain ⟨r1, e1, e2, e3, e4⟩ := rowC_rest hr.1 (fun x hx => by have := hr.2 x hx; omega)
      rw [e1] at hv
      simp only [force_eq] at hv
      rw [e2, show Nat.shiftRight (Nat.succ r1) 5 = rowC rest from e3] at hv
      rw [enc_less (L := L) (i := p) (r := rest) (c := Nat.succ r1) (d := rowC rest) (by omega) (by rw [hrow]; exact e1) rfl e4] at hv
      have h1 : ROK m (L.set p rest) := h.set p (by have := hr.1; simp at this; omega) (fun x hx => hr.2 x (by simp [hx]))
      have l1 : (L.set p rest).length = m := by rw [List.length_set]; exact hl
      rw [row_enc hm _ h1 q] at hv
      unfold tlWalk
      rw [hrow]
      dsimp only
      rw [if_pos (by omega)]
      obtain ⟨L1, hL1⟩ : ∃ L1, L.set p rest = L1 := ⟨_, rfl⟩
      rw [hL1] at h1 l1 hv ⊢
      have hr1 := h1.at q
      cases hs : lnAt L1 q with
      | nil =>
        rw [hs] at hv
        have f1 : Nat.beq (Nat.mod (rowC []) 32) (Nat.succ p) = false := rfl
        have f2 : Nat.beq (Nat.shiftRight (rowC []) 5) (Nat.succ p) = false := rfl
        rw [f1, f2, cond_false, cond_false] at hv
        exact absurd hv.symm h0
      | cons x tl =>
        rw [hs] at hv hr1
        have hx := hr1.2 x (by simp)
        obtain ⟨s1, g1, g2, g3, g4⟩ := rowC_rest hr1.1 (fun x hx => by have := hr1.2 x hx; omega)
        have g5 : Nat.mod (rowC (x :: tl)) 32 = x + 1 := by
          rw [g1]; show (s1 + 1) % 32 = x + 1; have : s1 % 32 = x := g2; omega
        rw [g5, show Nat.shiftRight (rowC (x :: tl)) 5 = rowC tl by rw [g1]; exact g3] at hv
        by_cases hxp : x = p
        · have f1 : Nat.beq (x + 1) (Nat.succ p) = true := by rw [hxp]; exact Nat.beq_refl _
          rw [f1, cond_true, enc_less (L := L1) (i := q) (r := tl) (by omega) (by rw [hs]) rfl (by rw [g1]; exact g4)] at hv
          have hfd : find p (x :: tl) 0 = some 0 := by rw [find, if_pos hxp]
          rw [hfd]
          have h2 : ROK m (L1.set q tl) := h1.set q (by have := hr1.1; simp at this; omega) (fun y hy => hr1.2 y (by simp [hy]))
          exact ih (L1.set q tl) q k v h2 (by rw [List.length_set]; exact l1) hq hv h0
        · have f1 : Nat.beq (x + 1) (Nat.succ p) = false := by rw [Bool.eq_false_iff]; intro hc; have := Nat.eq_of_beq_eq_true hc; omega
          rw [f1, cond_false] at hv
          have hlt := hr1.1
          match tl, hr1, hv, g1, hs, hlt with
          | [], _, hv, _, _, _ =>
            have f2 : Nat.beq (rowC []) (Nat.succ p) = false := rfl
            rw [f2, cond_false] at hv
            exact absurd hv.symm h0
          | [y], hr1, hv, g1, hs, _ =>
            by_cases hyp : y = p
            · have f2 : Nat.beq (rowC [y]) (Nat.succ p) = true := by rw [hyp]; exact Nat.beq_refl _
              rw [f2, cond_true, enc_less (L := L1) (i := q) (r := [x]) (d := x + 1) (by omega) (by rw [hs]) rfl (by simp only [rowC]; omega)] at hv
              have hfd : find p [x, y] 0 = some 1 := by rw [find, if_neg hxp, find, if_pos hyp]
              rw [hfd]
              have h2 : ROK m (L1.set q [x]) := h1.set q (by simp) (fun z hz => by simp at hz; rw [hz]; exact hx)
              exact ih (L1.set q [x]) q k v h2 (by rw [List.length_set]; exact l1) hq hv h0
            · have f2 : Nat.beq (rowC [y]) (Nat.succ p) = false := by rw [Bool.eq_false_iff]; intro hc; have := Nat.eq_of_beq_eq_true hc; simp only [rowC] at this; omega
              rw [f2, cond_false] at hv
              exact absurd hv.symm h0
          | _ :: _ :: _, _, _, _, _, hlt => simp at hlt

theorem floops_of {m : Nat} (hm : m ≤ 31) {k : Nat → Nat} : ∀ (d p : Nat) (L : List (List Nat)) (c v : Nat), ROK m L → L.length = m → p + d ≤ m → floops d p (encL L) c k = v → v ≠ 0 → ∃ C, tlLoops d L p c = some C ∧ C ≤ c + d ∧ v = k C := by
  intro d
  induction d with
  | zero => intro p L c v h hl hp hv h0; exact ⟨c, rfl, by omega, hv.symm⟩
  | succ d ih =>
    intro p L c v h hl hp hv h0
    rw [floops, row_enc hm L h p] at hv
    unfold tlLoops
    have hr := h.at p
    cases hrow : lnAt L p with
    | nil =>
      rw [hrow] at hv
      obtain ⟨C, h1, h2, h3⟩ := ih (p + 1) L c v h hl (by omega) hv h0
      exact ⟨C, h1, by omega, h3⟩
    | cons q rest =>
      rw [hrow] at hv hr
      obtain ⟨r1, e1, _, _, _⟩ := rowC_rest hr.1 (fun x hx => by have := hr.2 x hx; omega)
      rw [e1] at hv
      dsimp only at hv
      obtain ⟨q', L', g1, g2, g3, g4, g5⟩ := fwalk_of hm 40 L p _ v h hl (by omega) hv h0
      rw [g1]
      obtain ⟨C, h1, h2, h3⟩ := ih (p + 1) L' (c + 1) v g2 g3 (by omega) g5.symm h0
      exact ⟨C, h1, by omega, h3⟩

def encD : List Nat → Nat
  | [] => 0
  | x :: l => x + 16 * encD l
theorem shr4 (N i : Nat) : Nat.shiftRight N (Nat.mul 4 (i + 1)) = Nat.shiftRight (N / 16) (Nat.mul 4 i) := by
  show N >>> (4 * (i + 1)) = (N / 16) >>> (4 * i)
  rw [Nat.shiftRight_eq_div_pow, Nat.shiftRight_eq_div_pow, Nat.div_div_eq_div_mul]
  congr 1
  rw [show (16 : Nat) = 2 ^ 4 by decide, ← Nat.pow_add]; congr 1; omega
theorem shl4 (x i : Nat) : x <<< (4 * (i + 1)) = 16 * (x <<< (4 * i)) := by
  rw [Nat.shiftLeft_eq, Nat.shiftLeft_eq, show 4 * (i + 1) = 4 * i + 4 by omega, Nat.pow_add, show (2 : Nat) ^ 4 = 16 by decide, ← Nat.mul_assoc, Nat.mul_comm]
theorem dig_enc : ∀ (l : List Nat), (∀ x ∈ l, x < 16) → ∀ i, dig (encD l) i = l.getD i 0
  | [], _, i => by
    show (0 >>> (4 * i)) % 16 = _
    rw [Nat.zero_shiftRight]; simp
  | r :: l, h, 0 => by
    have := h r (by simp)
    show ((r + 16 * encD l) >>> (4 * 0)) % 16 = r
    rw [Nat.mul_zero, Nat.shiftRight_zero]; omega
  | r :: l, h, i + 1 => by
    have := h r (by simp)
    have e := dig_enc l (fun r hr => h r (by simp [hr])) i
    show Nat.mod (Nat.shiftRight (r + 16 * encD l) (Nat.mul 4 (i + 1))) 16 = l.getD i 0
    rw [shr4, show (r + 16 * encD l) / 16 = encD l by omega]; exact e
theorem encD_set (x : Nat) : ∀ (l : List Nat) (i : Nat), i < l.length → encD (l.set i x) + (l.getD i 0) <<< (4 * i) = encD l + x <<< (4 * i)
  | s :: l, 0, _ => by
    show x + 16 * encD l + s <<< (4 * 0) = s + 16 * encD l + x <<< (4 * 0)
    simp only [Nat.mul_zero, Nat.shiftLeft_zero]; omega
  | s :: l, i + 1, h => by
    have := encD_set x l i (by simpa using h)
    rw [List.set_cons_succ, shl4, shl4]
    show s + 16 * encD (l.set i x) + 16 * (l.getD i 0) <<< (4 * i) = s + 16 * encD l + _
    omega
def OOK (l : List Nat) : Prop := ∀ x ∈ l, x < 16
theorem OOK.set {l : List Nat} (h : OOK l) (i : Nat) {x : Nat} (hx : x < 16) : OOK (l.set i x) := fun s hs => by
  rcases List.mem_or_eq_of_mem_set hs with hs | rfl
  · exact h s hs
  · exact hx
theorem setD_of {l : List Nat} (h : OOK l) {i : Nat} (hi : i < l.length) (x : Nat) : setD (encD l) i x = encD (l.set i x) := by
  have he := encD_set x l i hi
  unfold setD
  rw [dig_enc l h i]
  show encD l + x <<< (4 * i) - (l.getD i 0) <<< (4 * i) = _
  omega
theorem fpnt_eq (n p : Nat) : fpnt n p = pnt n p := by
  unfold fpnt pnt
  by_cases h : n ≤ p
  · rw [if_pos h, Nat.ble_eq_true_of_le h]; rfl
  · rw [if_neg h]
    have : Nat.ble n p = false := by rw [Bool.eq_false_iff]; intro hc; exact h (Nat.le_of_ble_eq_true hc)
    rw [this]; rfl
theorem pnt_lt {n p : Nat} (h : p < 3 * n) : pnt n p < 2 * n := by unfold pnt; split <;> omega
theorem fends_of {n : Nat} (hn : 3 * n ≤ 31) (hn8 : 2 * n ≤ 16) {k : Nat → Nat → Nat} : ∀ (d p : Nat) (L : List (List Nat)) (out : List Nat) (v : Nat), ROK (3 * n) L → L.length = 3 * n → OOK out → out.length = 2 * n → p + d ≤ 3 * n →
    fends n d p (encL L) (encD out) k = v → v ≠ 0 → ∃ O L', putEnds n d L p out = some (O, L') ∧ ROK (3 * n) L' ∧ L'.length = 3 * n ∧ OOK O ∧ O.length = 2 * n ∧ v = k (encL L') (encD O) := by
  intro d
  induction d with
  | zero => intro p L out v h hl ho hol hp hv h0; exact ⟨out, L, rfl, h, hl, ho, hol, hv.symm⟩
  | succ d ih =>
    intro p L out v h hl ho hol hp hv h0
    rw [fends] at hv
    unfold putEnds
    by_cases hc : p < n ∨ 2 * n ≤ p
    · have hb : or (Nat.ble (Nat.succ p) n) (Nat.ble (Nat.mul 2 n) p) = true := by
        rcases hc with hc | hc
        · rw [Nat.ble_eq_true_of_le hc]; rfl
        · rw [Nat.ble_eq_true_of_le (show Nat.mul 2 n ≤ p from hc), Bool.or_true]
      rw [hb, cond_true, row_enc hn L h p] at hv
      rw [if_pos hc]
      have hr := h.at p
      cases hrow : lnAt L p with
      | nil =>
        rw [hrow] at hv
        exact ih (p + 1) L out v h hl ho hol (by omega) hv h0
      | cons q rest =>
        rw [hrow] at hv hr
        obtain ⟨r1, e1, _, _, _⟩ := rowC_rest hr.1 (fun x hx => by have := hr.2 x hx; omega)
        rw [e1] at hv
        dsimp only at hv
        obtain ⟨q', L', g1, g2, g3, g4, g5⟩ := fwalk_of hn 40 L p _ v h hl (by omega) hv h0
        rw [g1]
        have p1 := pnt_lt (n := n) (p := p) (by omega)
        have p2 := pnt_lt (n := n) (p := q') (by omega)
        have o1 := ho.set (pnt n p) (x := pnt n q') (by omega)
        have o2 := o1.set (pnt n q') (x := pnt n p) (by omega)
        rw [force_eq, fpnt_eq, fpnt_eq, setD_of ho (by omega), setD_of o1 (by rw [List.length_set]; omega)] at g5
        exact ih (p + 1) L' _ v g2 g3 o2 (by rw [List.length_set, List.length_set]; exact hol) (by omega) g5.symm h0
    · have hb : or (Nat.ble (Nat.succ p) n) (Nat.ble (Nat.mul 2 n) p) = false := by
        have h1 : Nat.ble (Nat.succ p) n = false := by rw [Bool.eq_false_iff]; intro hx; have := Nat.le_of_ble_eq_true hx; omega
        have h2 : Nat.ble (Nat.mul 2 n) p = false := by rw [Bool.eq_false_iff]; intro hx; have : 2 * n ≤ p := Nat.le_of_ble_eq_true hx; omega
        rw [h1, h2]; rfl
      rw [hb, cond_false] at hv
      rw [if_neg hc]
      exact ih (p + 1) L out v h hl ho hol (by omega) hv h0
theorem encL_empty : ∀ n, encL (List.replicate n []) = 0
  | 0 => rfl
  | n + 1 => by rw [List.replicate_succ]; show rowC [] + 1024 * encL _ = 0; rw [encL_empty n]; rfl
theorem encD_zero : ∀ n, encD (List.replicate n 0) = 0
  | 0 => rfl
  | n + 1 => by rw [List.replicate_succ]; show 0 + 16 * encD _ = 0; rw [encD_zero n]
/-- What fput finds is what putL finds. -/
theorem fput_of {n : Nat} (hn : 3 * n ≤ 31) (hn8 : 2 * n ≤ 16) {A B : List Nat} (hA : A.length = 2 * n) (hB : B.length = 2 * n) (hAb : ∀ i, A.getD i 0 < 2 * n) (hBb : ∀ i, B.getD i 0 < 2 * n) {v : Nat} (hv : fput n A B = v) (h0 : v ≠ 0) :
    ∃ O C, putL n A B = some (O, C) ∧ (∀ j, (lnAt (putLines n A B (2 * n)) j).length ≤ 2) ∧ OOK O ∧ O.length = 2 * n ∧ C ≤ 3 * n ∧ v = 64 * encD O + C + 1 := by
  unfold fput at hv
  have z1 : encL (putLines n A B 0) = 0 := encL_empty _
  have z2 : ROK (3 * n) (putLines n A B 0) := fun r hr => by
    obtain ⟨_, rfl⟩ := List.mem_replicate.1 hr
    simp
  have h1 := flines_of hn A B hA hB hAb hBb (k := fun N => fends n (Nat.mul 3 n) 0 N 0 fun M O => floops (Nat.mul 3 n) 0 M 0 fun c => Nat.succ (Nat.add (Nat.mul 64 O) c)) (2 * n) 0 (by omega) z2 v
  rw [z1, List.drop_zero, List.drop_zero] at h1
  obtain ⟨k1, k2⟩ := h1 hv h0
  have h2 := fends_of (n := n) hn hn8 (k := fun M O => floops (Nat.mul 3 n) 0 M 0 fun c => Nat.succ (Nat.add (Nat.mul 64 O) c)) (3 * n) 0 (putLines n A B (2 * n)) (List.replicate (2 * n) 0) v k1 (putLines_len _ _ _ _) (fun x hx => by
    obtain ⟨_, rfl⟩ := List.mem_replicate.1 hx
    omega) (by simp) (by omega)
  rw [encD_zero] at h2
  obtain ⟨O, L', g1, g2, g3, g4, g5, g6⟩ := h2 k2.symm h0
  obtain ⟨C, c1, c2, c3⟩ := floops_of hn (3 * n) 0 L' 0 v g2 g3 (by omega) g6.symm h0
  refine ⟨O, C, ?_, fun j => (k1.at j).1, g4, g5, by omega, c3⟩
  unfold putL
  rw [g1]
  dsimp only
  rw [c1]
theorem encD_inj : ∀ {l m : List Nat}, OOK l → OOK m → l.length = m.length → encD l = encD m → l = m
  | [], [], _, _, _, _ => rfl
  | x :: l, y :: m, h1, h2, h3, h4 => by
    have a := h1 x (by simp)
    have b := h2 y (by simp)
    simp only [encD] at h4
    have := encD_inj (l := l) (m := m) (fun z hz => h1 z (by simp [hz])) (fun z hz => h2 z (by simp [hz])) (by simpa using h3) (by omega)
    rw [this, show x = y by omega]

end Go.TL

namespace Go.TL
def dg (N i : Nat) : Nat := Nat.mod (Nat.shiftRight N (Nat.mul 12 i)) 4096
/-- One row: a on top of all b. P: what comes out (4 * number + loops), C: the codes of the matchings. -/
def rowOK (n : Nat) (A : List Nat) (P C : Nat) : List (List Nat) → Nat → Bool
  | [], _ => true
  | b :: bs, j => bif Nat.beq (fput n A b) (Nat.succ (Nat.add (Nat.mul 64 (Nat.mod (Nat.shiftRight C (Nat.mul 48 (Nat.shiftRight (dg P j) 2))) 281474976710656)) (Nat.mod (dg P j) 4))) then rowOK n A P C bs (Nat.succ j) else false
def rowsOK (n C : Nat) (S : List (List Nat)) : List (List Nat) → List Nat → Bool
  | [], _ => true
  | _ :: _, [] => false
  | a :: As, P :: Ps => bif rowOK n a P C S 0 then rowsOK n C S As Ps else false
def mS2 : List (List Nat) := [[2, 3, 0, 1], [1, 0, 3, 2]]
def mC2 : Nat := 2522297266304192562
def mP2 : List Nat := [16384, 20484]
def mQ2 : Nat := 4096
def mS3 : List (List Nat) := [[3, 4, 5, 0, 1, 2], [1, 0, 5, 4, 3, 2], [3, 2, 1, 0, 5, 4], [1, 0, 3, 2, 5, 4], [5, 2, 1, 4, 3, 0]]
def mC3 : Nat := 1338811643632049250164669903821408695747615153601977326954939715
def mP3 : List Nat := [4504424395325440, 1126793461387268, 4785624510955528, 1408199735394316, 4504218236948496]
def mQ3 : Nat := 4785761832407040
def mS4 : List (List Nat) := [[4, 5, 6, 7, 0, 1, 2, 3], [1, 0, 6, 7, 5, 4, 2, 3], [4, 2, 1, 7, 0, 6, 5, 3], [4, 5, 3, 2, 0, 1, 7, 6], [1, 0, 4, 7, 2, 6, 5, 3], [1, 0, 3, 2, 5, 4, 7, 6], [6, 2, 1, 7, 5, 4, 0, 3], [4, 2, 1, 5, 0, 3, 7, 6], [4, 7, 3, 2, 0, 6, 5, 1], [1, 0, 4, 5, 2, 3, 7, 6], [1, 0, 3, 2, 7, 6, 5, 4], [3, 2, 1, 0, 5, 4, 7, 6], [6, 7, 3, 2, 5, 4, 0, 1], [3, 2, 1, 0, 7, 6, 5, 4]]
def mC4 : Nat := 81060902711933437355991654972951066458221468413371936587154216694648265736801688956381510727119234415220494725701251063119642296565602132979654617243291385256622259492063595237614616143717481870932
def mP4 : List Nat := [4750950996706931071448618949882551723478535389184, 3654200217176095680855840877770335560451009564676, 4841759636615813777515500980384605070016043384840, 3654846938786847551556472063015436388232524283916, 3745187263029288939592526896629087016898730672144, 3745566375700317550379573265056111288425566523412, 4750861793743414642855944354684230961084248461336, 4750438079584647425387749064324597975426760097820, 3746168495818016499832653246489267881169133961248, 3653865705998112202871057910913817231817254715428, 3836887932731488770285630057517032233779157090344, 4842227952267646896974012800534378001167364050988, 3654200217176087892410089055798290496967713951792, 4933549509298818116880069592995298946520954617908]
def mQ4 : Nat := 8222396536150483748918357522540841885369720901632
def mS5 : List (List Nat) := [[5, 6, 7, 8, 9, 0, 1, 2, 3, 4], [1, 0, 7, 8, 9, 6, 5, 2, 3, 4], [5, 2, 1, 8, 9, 0, 7, 6, 3, 4], [5, 6, 3, 2, 9, 0, 1, 8, 7, 4], [5, 6, 7, 4, 3, 0, 1, 2, 9, 8], [1, 0, 5, 8, 9, 2, 7, 6, 3, 4], [1, 0, 3, 2, 9, 6, 5, 8, 7, 4], [1, 0, 7, 4, 3, 6, 5, 2, 9, 8], [7, 2, 1, 8, 9, 6, 5, 0, 3, 4], [5, 2, 1, 6, 9, 0, 3, 8, 7, 4], [5, 2, 1, 4, 3, 0, 7, 6, 9, 8], [5, 8, 3, 2, 9, 0, 7, 6, 1, 4], [5, 6, 3, 2, 7, 0, 1, 4, 9, 8], [5, 6, 9, 4, 3, 0, 1, 8, 7, 2], [1, 0, 5, 6, 9, 2, 3, 8, 7, 4], [1, 0, 5, 4, 3, 2, 7, 6, 9, 8], [1, 0, 3, 2, 9, 8, 7, 6, 5, 4], [1, 0, 3, 2, 7, 6, 5, 4, 9, 8], [1, 0, 9, 4, 3, 6, 5, 8, 7, 2], [3, 2, 1, 0, 9, 6, 5, 8, 7, 4], [7, 2, 1, 4, 3, 6, 5, 0, 9, 8], [5, 2, 1, 6, 7, 0, 3, 4, 9, 8], [5, 2, 1, 4, 3, 0, 9, 8, 7, 6], [7, 8, 3, 2, 9, 6, 5, 0, 1, 4], [5, 4, 3, 2, 1, 0, 7, 6, 9, 8], [5, 8, 9, 4, 3, 0, 7, 6, 1, 2], [1, 0, 5, 6, 7, 2, 3, 4, 9, 8], [1, 0, 5, 4, 3, 2, 9, 8, 7, 6], [1, 0, 3, 2, 5, 4, 7, 6, 9, 8], [1, 0, 9, 4, 3, 8, 7, 6, 5, 2], [3, 2, 1, 0, 9, 8, 7, 6, 5, 4], [3, 2, 1, 0, 7, 6, 5, 4, 9, 8], [9, 2, 1, 4, 3, 6, 5, 8, 7, 0], [7, 4, 3, 2, 1, 6, 5, 0, 9, 8], [5, 4, 3, 2, 1, 0, 9, 8, 7, 6], [7, 8, 9, 4, 3, 6, 5, 0, 1, 2], [1, 0, 3, 2, 5, 4, 9, 8, 7, 6], [3, 2, 1, 0, 5, 4, 7, 6, 9, 8], [9, 2, 1, 4, 3, 8, 7, 6, 5, 0], [9, 4, 3, 2, 1, 6, 5, 8, 7, 0], [3, 2, 1, 0, 5, 4, 9, 8, 7, 6], [9, 4, 3, 2, 1, 8, 7, 6, 5, 0]]
def mC5 : Nat := 620485906234838799161757448895312506343175903389528724772826894553150833057273227883350326337665387143696892886789818074746916276564077504700264483205811622434561546991469434289650617478081665661672798801610002873611140974102618870065334466857725762246060484171904930016975726452102312892815572964540347763245270159624883185895327867852551193200214572736243551860294998996948607047186379445835793922159536120865230918973868443519632892150045169820057025293088799470547007063291113860477140287166477530744890207628438525824072404870400986962115144351641955912473587780427148857417660531514333028418160485
def mP5 : List Nat := [2097515456874526095580133379334044027722822142576248557384373518503816793598211673124978460487821001154463185097189879314353542469699488169581388775424, 818797202078365674628479237560500231113912858428348998200692496252141015758024267622236155773589981935598022260625010293584670927244903352532209782788, 1944078372538052897057896661091517568710560402697261467004153142551271598932651170299436028701991281530798050056474127972770077918614368479486442340360, 2110252191724192199236027736694301502556255464221628049292567782838210990769044970677052785637853937060428750303935152751863391432105223976995774365708, 1943850484893874877459646413094809365430618513334161345416410600502643039933057710435574129778938353647282972066795057601117901370269912542379484758032, 1483707827638996748112303840936466950006099164599902426915844776360961546691204493074751392548160665748450434678048378664455153639823075235640863899668, 831587006641480305307997792369835469813394455793959794029359988095084192607984484356479373234766410954285251934675863643534797427293420076974722879512, 1483592322942632648358416581300392996104168598333773856581256434791400814243437085064645003493617242974063512672338943799001684874888325553911310176284, 1534901385170725338500902193861269087216926803511978979164710948305232725912483602833760989333093899582717117000510836401374848010377600616873842577440, 1956861933613556411282515359318545725922787588151309778849092898007187846985029038870902732949261562769709445169998219345370944048004714494543385640996, 1956640289466851255717471015665993333750105753996152264145601766472124241641101266470132983409176884287930825882285525460427241819044283316725812101160, 2097468630648688685011387376985288026477937861396244778855050138514370751696215133613522128542009316307984464861347807994088567461124878221612706807852, 2097440534911735068815054778803220250458718433600402945035502205156665782039055000451249959721429800892191479556883825841501468169262542749384279605296, 1956699602688935981497077024054370772970362370888028993981559729257595494921739714451679494237346389463587553908731633860583575918408393112409480658996, 1496491388714500262336987523609451063816597707668897281372056127235689122801913245532373985101744210454286527244566009287051520304605055145851586969656, 1496382127515609026827007403588729531483796208500064520926255028843458604063219948827688705302902602136601769804220286028979167145702222055778690383932, 818803445565976791083368263401814653168122023238143518152323387000620969416797686313392624708343691610519290930911367443131270189611558375113627893824, 818797202068876068243948532790822659245554380325418785359813917243469062140013238900463616535112023581515978030343601389821319086172139849109939179588, 1496382127515236885422465840879405806672008673802314865350926897951808604910519039925345662132951675016948025221627650237181364231740589581029146398792, 1547691189737561383448803425209224046771724981802651071636272699966896099645393649124340101352042594626084957727539814162684247206198310779612205207628, 1943850484893874877248891024118649457803523372010268408721433795017552537048702627619231848118099902814132201526095770098648057728171321280087892234320, 1943850484893874878036069279465137051530707505070757904819164157698971777998206212342908028496242843983904540288102629510388869459507907003758294843476, 1969423850542354769942216975099685239300614388344592359899220375246519379674061368308695981757348216725029544944212246263069865144724592885610230317144, 818797202087297068872851100592419479927710974593267710351135038386012477472691269237237624024425176035180538355782769329057073352248331960818703126620, 2110230339484711447206238295217019817864100296307970306717358544420593217245896403647683056687511194476772218113663548802244572747351994548502141616224, 1943916041613432467272165895820540811065914026856497234641994734630921919217114610335251529178125375996295979225165736178695910724955517742401934901348, 1483592322942632648746406215880431866083377674665173544485493749082283937197566828405563759975945177564758852877107846327489437591320142865813473607784, 1509165688591112541051753363022421437034304842848504616079127283765097781422580195806065171419063259225916041408494378060730387267510382900623482060908, 831587006641852446712777631380997702152177010460659245960788431858915426656938243994118003179315635403181879718761925332898016826352500339969269973104, 1483598566439733371197598035609546482499741221277548793217914376304641485929431610441705269259140057000587925451285180614482891409930856011377559240820, 1534907628662057869224184726982195889559497777427241604679911906735231873515978241853346941126882461636247299214791907882562284403327357902604516769912, 1534901385164957146384754165630211236203884906334110062799852641933959868845571221327182841419588171714143211712906139618298710372550033148902742937724, 1956640289466479114312940283697662268371363447478809418091850612030716288910448838908041918395514442743896746872752060966828669156943154937087117496448, 2097440534911735068737593319223719985319246545239645597768801651886194671226382801464942060710210975681321716414521319124866569196190012245514541092996, 2123013900560214961430984254650711723414608930656410402437602355758724135241434291327346803245015261269159854510944803279798669350290006338700455821448, 1483592322949145123328254141728366171737557828206644953034503037146420252037568557209552650541555721612861290582820630232055270602431834260908957814924, 844370567717355960937523590814689607702685644809099341013536294471761943904031848495796713923474486578896843568032088945944044571123176884835197223056, 1547691189737933524853594094961378938543552764649757332321502964412690897647324049460660681841760249616397571478309760334806786627330701188046933966996, 1943856728390975600088061647686810284766050766773636537038007467786548751925033616779988824480200326765459221995028334322271905092526491919622800408728, 2110230339484339305801642578802732795887086620708186607105843671463094203021758776285523830341065503714203202133214641009275963823478272356483175403676, 1560474750813437039078340054395070844094061398998197427541124814206858515081528724756835651539255405070425122621293843724123148762001288282623227248800, 2097446778408835791576828927237836768880045309085454579576389448295839504125119923882931404251739346697453854897325598963607056183653458950775491903652]
def mQ5 : Nat := 4015951773855059783572593953792687896171944717823155356494915788422723276043688696807808510138972166758143844598965424524967235661334916468598399569920
def mS6 : List (List Nat) := [[6, 7, 8, 9, 10, 11, 0, 1, 2, 3, 4, 5], [1, 0, 8, 9, 10, 11, 7, 6, 2, 3, 4, 5], [6, 2, 1, 9, 10, 11, 0, 8, 7, 3, 4, 5], [6, 7, 3, 2, 10, 11, 0, 1, 9, 8, 4, 5], [6, 7, 8, 4, 3, 11, 0, 1, 2, 10, 9, 5], [6, 7, 8, 9, 5, 4, 0, 1, 2, 3, 11, 10], [1, 0, 6, 9, 10, 11, 2, 8, 7, 3, 4, 5], [1, 0, 3, 2, 10, 11, 7, 6, 9, 8, 4, 5], [1, 0, 8, 4, 3, 11, 7, 6, 2, 10, 9, 5], [1, 0, 8, 9, 5, 4, 7, 6, 2, 3, 11, 10], [8, 2, 1, 9, 10, 11, 7, 6, 0, 3, 4, 5], [6, 2, 1, 7, 10, 11, 0, 3, 9, 8, 4, 5], [6, 2, 1, 4, 3, 11, 0, 8, 7, 10, 9, 5], [6, 2, 1, 9, 5, 4, 0, 8, 7, 3, 11, 10], [6, 9, 3, 2, 10, 11, 0, 8, 7, 1, 4, 5], [6, 7, 3, 2, 8, 11, 0, 1, 4, 10, 9, 5], [6, 7, 3, 2, 5, 4, 0, 1, 9, 8, 11, 10], [6, 7, 10, 4, 3, 11, 0, 1, 9, 8, 2, 5], [6, 7, 8, 4, 3, 9, 0, 1, 2, 5, 11, 10], [6, 7, 8, 11, 5, 4, 0, 1, 2, 10, 9, 3], [1, 0, 6, 7, 10, 11, 2, 3, 9, 8, 4, 5], [1, 0, 6, 4, 3, 11, 2, 8, 7, 10, 9, 5], [1, 0, 6, 9, 5, 4, 2, 8, 7, 3, 11, 10], [1, 0, 3, 2, 10, 11, 9, 8, 7, 6, 4, 5], [1, 0, 3, 2, 8, 11, 7, 6, 4, 10, 9, 5], [1, 0, 3, 2, 5, 4, 7, 6, 9, 8, 11, 10], [1, 0, 10, 4, 3, 11, 7, 6, 9, 8, 2, 5], [1, 0, 8, 4, 3, 9, 7, 6, 2, 5, 11, 10], [1, 0, 8, 11, 5, 4, 7, 6, 2, 10, 9, 3], [3, 2, 1, 0, 10, 11, 7, 6, 9, 8, 4, 5], [8, 2, 1, 4, 3, 11, 7, 6, 0, 10, 9, 5], [8, 2, 1, 9, 5, 4, 7, 6, 0, 3, 11, 10], [6, 2, 1, 7, 8, 11, 0, 3, 4, 10, 9, 5], [6, 2, 1, 7, 5, 4, 0, 3, 9, 8, 11, 10], [6, 2, 1, 4, 3, 11, 0, 10, 9, 8, 7, 5], [6, 2, 1, 4, 3, 9, 0, 8, 7, 5, 11, 10], [6, 2, 1, 11, 5, 4, 0, 8, 7, 10, 9, 3], [8, 9, 3, 2, 10, 11, 7, 6, 0, 1, 4, 5], [6, 4, 3, 2, 1, 11, 0, 8, 7, 10, 9, 5], [6, 9, 3, 2, 5, 4, 0, 8, 7, 1, 11, 10], [6, 7, 3, 2, 8, 9, 0, 1, 4, 5, 11, 10], [6, 7, 3, 2, 5, 4, 0, 1, 11, 10, 9, 8], [6, 9, 10, 4, 3, 11, 0, 8, 7, 1, 2, 5], [6, 7, 5, 4, 3, 2, 0, 1, 9, 8, 11, 10], [6, 7, 10, 11, 5, 4, 0, 1, 9, 8, 2, 3], [1, 0, 6, 7, 8, 11, 2, 3, 4, 10, 9, 5], [1, 0, 6, 7, 5, 4, 2, 3, 9, 8, 11, 10], [1, 0, 6, 4, 3, 11, 2, 10, 9, 8, 7, 5], [1, 0, 6, 4, 3, 9, 2, 8, 7, 5, 11, 10], [1, 0, 6, 11, 5, 4, 2, 8, 7, 10, 9, 3], [1, 0, 3, 2, 6, 11, 4, 8, 7, 10, 9, 5], [1, 0, 3, 2, 5, 4, 9, 8, 7, 6, 11, 10], [1, 0, 3, 2, 8, 9, 7, 6, 4, 5, 11, 10], [1, 0, 3, 2, 5, 4, 7, 6, 11, 10, 9, 8], [1, 0, 10, 4, 3, 11, 9, 8, 7, 6, 2, 5], [1, 0, 5, 4, 3, 2, 7, 6, 9, 8, 11, 10], [1, 0, 10, 11, 5, 4, 7, 6, 9, 8, 2, 3], [3, 2, 1, 0, 10, 11, 9, 8, 7, 6, 4, 5], [3, 2, 1, 0, 8, 11, 7, 6, 4, 10, 9, 5], [3, 2, 1, 0, 5, 4, 7, 6, 9, 8, 11, 10], [10, 2, 1, 4, 3, 11, 7, 6, 9, 8, 0, 5], [8, 2, 1, 4, 3, 9, 7, 6, 0, 5, 11, 10], [8, 2, 1, 11, 5, 4, 7, 6, 0, 10, 9, 3], [6, 2, 1, 7, 8, 9, 0, 3, 4, 5, 11, 10], [6, 2, 1, 7, 5, 4, 0, 3, 11, 10, 9, 8], [6, 2, 1, 4, 3, 7, 0, 5, 9, 8, 11, 10], [6, 2, 1, 11, 5, 4, 0, 10, 9, 8, 7, 3], [8, 4, 3, 2, 1, 11, 7, 6, 0, 10, 9, 5], [8, 9, 3, 2, 5, 4, 7, 6, 0, 1, 11, 10], [6, 4, 3, 2, 1, 11, 0, 10, 9, 8, 7, 5], [6, 4, 3, 2, 1, 9, 0, 8, 7, 5, 11, 10], [6, 11, 3, 2, 5, 4, 0, 8, 7, 10, 9, 1], [8, 9, 10, 4, 3, 11, 7, 6, 0, 1, 2, 5], [6, 9, 5, 4, 3, 2, 0, 8, 7, 1, 11, 10], [6, 7, 5, 4, 3, 2, 0, 1, 11, 10, 9, 8], [6, 9, 10, 11, 5, 4, 0, 8, 7, 1, 2, 3], [1, 0, 6, 7, 8, 9, 2, 3, 4, 5, 11, 10], [1, 0, 6, 7, 5, 4, 2, 3, 11, 10, 9, 8], [1, 0, 6, 4, 3, 7, 2, 5, 9, 8, 11, 10], [1, 0, 6, 11, 5, 4, 2, 10, 9, 8, 7, 3], [1, 0, 3, 2, 6, 11, 4, 10, 9, 8, 7, 5], [1, 0, 3, 2, 6, 9, 4, 8, 7, 5, 11, 10], [1, 0, 3, 2, 5, 4, 11, 8, 7, 10, 9, 6], [1, 0, 5, 4, 3, 2, 9, 8, 7, 6, 11, 10], [1, 0, 5, 4, 3, 2, 7, 6, 11, 10, 9, 8], [1, 0, 10, 11, 5, 4, 9, 8, 7, 6, 2, 3], [3, 2, 1, 0, 6, 11, 4, 8, 7, 10, 9, 5], [3, 2, 1, 0, 5, 4, 9, 8, 7, 6, 11, 10], [3, 2, 1, 0, 8, 9, 7, 6, 4, 5, 11, 10], [3, 2, 1, 0, 5, 4, 7, 6, 11, 10, 9, 8], [10, 2, 1, 4, 3, 11, 9, 8, 7, 6, 0, 5], [5, 2, 1, 4, 3, 0, 7, 6, 9, 8, 11, 10], [10, 2, 1, 11, 5, 4, 7, 6, 9, 8, 0, 3], [6, 2, 1, 4, 3, 7, 0, 5, 11, 10, 9, 8], [10, 4, 3, 2, 1, 11, 7, 6, 9, 8, 0, 5], [8, 4, 3, 2, 1, 9, 7, 6, 0, 5, 11, 10], [8, 11, 3, 2, 5, 4, 7, 6, 0, 10, 9, 1], [6, 4, 3, 2, 1, 7, 0, 5, 9, 8, 11, 10], [6, 11, 3, 2, 5, 4, 0, 10, 9, 8, 7, 1], [8, 9, 5, 4, 3, 2, 7, 6, 0, 1, 11, 10], [6, 11, 5, 4, 3, 2, 0, 8, 7, 10, 9, 1], [8, 9, 10, 11, 5, 4, 7, 6, 0, 1, 2, 3], [1, 0, 6, 4, 3, 7, 2, 5, 11, 10, 9, 8], [1, 0, 3, 2, 6, 7, 4, 5, 9, 8, 11, 10], [1, 0, 3, 2, 5, 4, 11, 10, 9, 8, 7, 6], [1, 0, 5, 4, 3, 2, 11, 8, 7, 10, 9, 6], [3, 2, 1, 0, 6, 11, 4, 10, 9, 8, 7, 5], [3, 2, 1, 0, 6, 9, 4, 8, 7, 5, 11, 10], [3, 2, 1, 0, 5, 4, 11, 8, 7, 10, 9, 6], [5, 2, 1, 4, 3, 0, 9, 8, 7, 6, 11, 10], [5, 2, 1, 4, 3, 0, 7, 6, 11, 10, 9, 8], [10, 2, 1, 11, 5, 4, 9, 8, 7, 6, 0, 3], [10, 4, 3, 2, 1, 11, 9, 8, 7, 6, 0, 5], [5, 4, 3, 2, 1, 0, 7, 6, 9, 8, 11, 10], [10, 11, 3, 2, 5, 4, 7, 6, 9, 8, 0, 1], [6, 4, 3, 2, 1, 7, 0, 5, 11, 10, 9, 8], [8, 11, 5, 4, 3, 2, 7, 6, 0, 10, 9, 1], [6, 11, 5, 4, 3, 2, 0, 10, 9, 8, 7, 1], [1, 0, 3, 2, 6, 7, 4, 5, 11, 10, 9, 8], [1, 0, 5, 4, 3, 2, 11, 10, 9, 8, 7, 6], [3, 2, 1, 0, 6, 7, 4, 5, 9, 8, 11, 10], [3, 2, 1, 0, 5, 4, 11, 10, 9, 8, 7, 6], [5, 2, 1, 4, 3, 0, 11, 8, 7, 10, 9, 6], [5, 4, 3, 2, 1, 0, 9, 8, 7, 6, 11, 10], [5, 4, 3, 2, 1, 0, 7, 6, 11, 10, 9, 8], [10, 11, 3, 2, 5, 4, 9, 8, 7, 6, 0, 1], [10, 11, 5, 4, 3, 2, 7, 6, 9, 8, 0, 1], [3, 2, 1, 0, 6, 7, 4, 5, 11, 10, 9, 8], [5, 2, 1, 4, 3, 0, 11, 10, 9, 8, 7, 6], [5, 4, 3, 2, 1, 0, 11, 8, 7, 10, 9, 6], [10, 11, 5, 4, 3, 2, 9, 8, 7, 6, 0, 1], [5, 4, 3, 2, 1, 0, 11, 10, 9, 8, 7, 6]]
def mC6 : Nat := 85686292092994703708506176860000465811402104171249351992298308901837486685032088468202455023510116123855538827295648604633163333920127080415264869344167591358974045775437482411694947288487448364271186909415496636571915046542224999405175053945342684778686737408802124278883017390527830670106618450221182690705160324994030187021329829892658391928343234002554728095867231780848026873878407184520650570000959421596048513972698386739127159667203330969986138454644382292143257577384964564058882810799476622663731253508343232864734318058335615669898105886102047519713165415012062305881113925402623033382024407661681616095336382905359031117107159626983215676464656971532546436551787207765562401298520191805472666210479967951804656845150991261297886426732905924945285640241085904713045624241331389765151559785175510471040249394183655822353160290788623201450197678450544052310825900910342623168560494144468386459395587360893583968777872383881685082678827883945367473628923002754033270500949168089294007438952940872165932418719970131649469047591221567738951116743856170969597938100244526933724816378730748222477771559190421238437786869947980793996191559530367999891023658214607787348553973971968346654800017421035822394209144979945652553918529637403980056350592241904377004117572130379257870515076655944865347725583526679304366814497644907421714156892151938441188204106616032758435102486243294133836789555103923711900749326319498565816372694826042740454386093277145625661542122987134663639519886125385298890126047251958506998687111692370601965661235351631776184802837654144195540542810043321498848697983598966802152266607149498904330284452246383016710985786446659636886948829201812118832677371079756690825812983343273224753983714987733929353310265236369663735284853204038307624999993845058411979081380050428562830952935309899452549016794555231958119474487239557979468759920116968458811121702851424606993979653318416502
def mP6 : List Nat := [86813987212372510390062598779196188373151699380112281181469182562068496613737319788446329757492609323654091570551303999059697511021334783221322482954382858523178597580637168301413951256115808432805060198261557802303891032529326075839827980170984706490485571638408073396311662122713298794414177066479779251384130512627239811425493018789661837954602912629457439303940383249177809912249644200941192214890921029283158321786108427952159271719535828277276005908924174225798101745664, 68917758804957741075972796347694653651097098809236779889440513564010482247658863099243115389374057006900227882285757374052303233264231668222007804646121017945086310077329129633187538825461809639172062875051083336230078699754618934395499097657387211661905372153924387095096888615598818787290624956557672084097511571027561450492532564099733495698140565635048866848302196700971639086331434178479131847321165407371964408247277516950936955506587803544887709410561744238714747375620, 84819891897807280304746162732100953714260688882760389360027324236253997332880334758745173079167174499003517480851645038377252057162123856293661783152766279902472149817876649348725332793422395818255782811658754545297485847814883724736618230117569244337277388873700934516255964882447783213321186512525439975454184035916950453621089513894182932177630431466775338098164624071182692879465778623881573169783381207406400523328690719402476536060266101563582348040773035606729560326152, 86978813864378065480078108059852511122613489505102785757031434871015120262381478816979877993765731718801961603597615560231210710650638638746965345908779487102452654254444129060509611888808868308120623927238559685022059149179425742292384485628681904485317425037921376333676926204516274743885612824800619406013383363722293540013773317525602463066135814701310156901834030397413125590815614295097027263085598619822709745460322455462313949499848260700683901342703595435138375335948, 84826402469293643803428032469079308554692531104781611946454018012817114695413649751481095585529843467206119396693044971338835891382687952421876400247616388078478974705885820245002366335708840179313734311549840813429854179055719388618101470146739302447116857740637259492151679336386607409942167660971440218866531110344453809953873942742010398563966366149289103660577420480267250832692573559834199176082968879611521089054625681174529726800106495924717805477178130737842138251280, 68924552444788896996121078144951654533583376085461960487589533180954486391535120387468434395387637116808996453716090878520449098503896372441192306479438307354856440455758884319949751954640954087053860028122804021327219413525455466592559618623704391903740038874573820668304117820459341862553182661482795125602464354547596228610884565711253099357467282418238661128133615802109807811598252646825430850212868040086913201881375409556342736813621394209234787538879213394498035007508, 78851193391603683514575668517369154013148280585834959985850426929896974008737542945472659397323737784800738347891067930326360639369396721078462855655821597039346237049078836936051126376255701856956510522245508626289193184093391736975681848748870237259098971840391354600569130930852906479526007933308355094533055041313646264162705032312346096168935332398257606647362481593608488002526699461710069108625386611112911979476658588620542498382007124783425926400153084628353129922584, 69078218116910670088850181662109242334489460470170599306189631222938745144642887850638235188482974683416382985981177236710479664245151413425325856415486186487607458557171700717086468373915016089314575962760395095083580800900776313588968841819218356806496918998091802772741246210821206842649966445380699659139735680054220864368025957499391546271659437654502882444253118013271632038403569610659588676855605527097234511847783953704718910051461497251701521658818790228226402799644, 78855924676472676072103188184381606719225411293048443980470865454552973431562930597539874278669000586146672650402064005483186993497787984163327222296338786181049208616939647705451821320980293943428538438939679803322661309728762239011374108298908996286179748566793111749495156198604213576117785104050502219903158541875757589610339293206858836981203558185454308247699794451690743842569971751728657752324065451849988212986573610569297022104480320272624876113994533091189131972640, 69078218116910516502047587328733846970604407639483614682273811664762956212322101715608521356234544546639708249703681867512007335919574154829862722723884769647421736088936895332155923798966900833817067685245644787257854833551695659590155359703013578866460690990248406198190808726283056779648127515968107877104643527311639216481184744452946709215635288034266327406043278549513965084919145780915479398203779614387252664162406710586018797529751549813621927174140078139523104657444, 80185173213233140726775469727404848569335030670140950316831460873754676770226771363590521554300520449162190619880019648341066087317058219615113120299882140388725807035112426518636489579570456517210495045853043337816122270613002320613185457234979974824394877614757399603600774270289071583837520657439496371656950728319470907419510711678428296731777778746682656038978296805301760964769419448480075858005457969687855471230510029552201126543176648932991347451365713799662423674920, 84988924136331771545811155953698311186127338562252151047015164018727795734378876537753440469388499594132041525875966718372666364438619530152043593381843808259034420004828933265371748660488723957393524925524975424497578587603316919799670157469168913941141092220171612615024749497413407061931191933702512558202762600411719810278718427824181900157976517248659030713176963734768033496049088101773379713741225150066501927258055785800066041227009991332506969341961119208419952640044, 84985567754762755825536263518185560702364338172499731569181552583087709761451872037237945545026318547274905561571707655624295806059333250170442212612099473907356949904683315525171799909543244471188416895080737095505291683190096882563828139448341800652207329120907302282050894173596737893745005217637903267372576853606333854626018241424681468080425059560560599526117049990573596513315113045668348323975668244993565589926463519594045290963046745244031524365104363378564806443056, 80185496719825684942123585116826061914097470193982284783334259596371989005031944212017747268764234089899237019798165814066159515274093293094249150469104407010204960554911716468319644892392349317886946302789080524888466678109110754514269479945048318325569543097818597549447705949940522623149274368085516521233764739626636247947648260810843702645154122824215910800099015611735599666422694267715761509697551704186986626463573333153082806102231238748210563717658307925434234814516, 86811075652484420274026886734450713906536026819971670383332473430103611163761618745626783554575226606057350297122756258831287548915280073353402710144331726504649294434826461459493979685745243603726953342233115464549712207809400394716771846018122717045408951112669427474337909252496174464801456805255637200378205775560006897606571395797720702876286520397058744391176901508013176543586864916890649186298290022189675165070580525610558500264023748577025223871386689741310292213816, 86813218884091751369816574562550733650456924157172222162720195899536171866675334499831621211766865676429501231525200600947259783368205665859622368063065710636204713815643745515366615235201350144469744494197343157482774484752646567140632044125154039755997437655169106705790797228166406628926841891874494040597489796143854573229064739021548207731070870571276343915363873622049148684153706741631632035953904584926654109431533822743787000171474047996193291740634292472827152302140, 69090228301578056251815150198561792194295829184461197848300596114376324791186966971463561254535185493888007293834517366151876145942507439584794555624839320994703844871722256619539093331621673395339228316073883118052831235531094205573782149552524818844557008658653776328223000720919023950975952750761291086844927197624401572582100874808213970726798905714007126010692520468478307440238357148692472909982106660465404418541788001931103220198554170130489836663176717052592058155072, 84991997449579972036613942456806409747442623421473245025740472202309219229451146041321023456011638914379976527858808142166991911880859437126451901341734232716835850793673108752115715929374139760862764061714703138782670806804348485902034944005115467735982245421659826869966252733413891039398868771135827465895030522759832085068963635826729495391133368506339969481663004086189287957554215111281690321485170089695544649558175040081675421755220925841890038624140374113022187569220, 78863486644681062355088782815091565119111763095026316553053446835288008279050090908355478255135866068365099751482911790953242070065974902349928166729623019331790848427633203138740158016899520973829614158930357515472628547166005667494789236908399496821901881832971636651656816408872452793569257840902342385828340837845797712725337149236107847966209288531875814939003942978177200197610481176830342827383745857712556159495423788745144821558476611500962165778019650188405591425096, 80187801704761820008523208038815755918016044140331893135626135337607621509378772956242731791586204224730677519858923549730898598987881663142768849055606017196024448772116814196124345023395769208825466359733860639295697310736553922124405765096701742823818910030269478286008942765642045553425656228299200503821511137255545482971622045562401037139243857309231212270054684774218702404937372505427207490999663173786443127867230919585899063301300958963746460275844456090421659369548, 79021843163416732289638601120915989860452196208466400197313305625966510894015007542573224261807581517745456827830030903981776138687197858409781368181088608961185175773364917085178905645097543839334112622357834811293914932224828604454384666977882780148017752627176688575919035343534413130474195292204402981471486860923363385933042989084738160495471053020460191837303681375620748421201650110818618791751634536835073941262126296107413726494750817818341108600590695243841359954000, 79016869248559201404137495788245314778555418223521390283606415590336045079023001948820632159585090635341996098348564011962138968455120950051772102018728833984921830725315324349348335657582922822413459634928174597656425377357858810927953260943083711450362003696644853190956050117970399733138254713277094893665873139031598039677319948935666244507068170619233282394711490910972311241526119823981844721223517631214534269444104363542692352757438570596970074786527010902124278186068, 68918082311473091740501147473851745549194796403082777494408870709273034639132246106658410283836396970915272961676336162175940518787716819423702162319714510665743207530022719679721163581253429018964238890078122846846880188540401937734293425854433972009865847976036898467882177919808667003266102009750683820443984394480692960418515912602006466193561152343708348272937841549899396029037314165285415412154215613914315316592401185210065246710865476905195995018000154030399096504408, 68908053605084188581227387999765876264414967303095002376744795255610859309396339132041905099903384956637257924808994627433221267102901288168461964247187400799629662833483369847647091826641933020658296043228034679082105626952966557290567415901906480750668145283274385623875170603759316073965342889225138006577533723363923682014320473362302667127104977832010781726894046228205941610609090497059616223983715645394955841644674830997146391835380938599919433258981354883130270531676, 68912623136624362451595654056252404883243918020206707329555327431339331987359874249469108311072820584615320069489364448447487920699123758286662763331230913169739477939237041859176129955094600033027173439147321443258811070753708182983264840564033565207720037366780486580849750086570566251036431634598355095981092655120230673544213786689042435476302383604938097614474877776148340616674836751920720011062627045494408843468203377519706859013642179534853649029683886798361407656032, 69243893973866072641200651927275730369145567671547334190478822953262627411028083095503955127062203058055069055659934195843844490103345765994799624798166154263993906565023411756852112560215651751362612522920969357701050228485340277916165012967724090665457822390464746222880450001599643617117470367319352017945766483363715869375127236776479351785087777601121445795031413330171985427657300581882210892976005532406177708722652283373281974432418830330751246349104714705701439950948, 79021519656758983709357715790238444170470953743012335957105169246152386589220929475137704966814610972807409388918907022405942766292931413681792394445941119312170967748967578904089922297078087673237611074235482724417103828172357062572659837668834682541305216456770080393673058655739179844825915916790728670675577365172138517256478598125902084567868555543495754346658718865599587659222468918839155878738531783518441747298965949712234502420315135791991644495260938834704408678504, 79021519656758940752129403965194751214288378347740038548908232904991603283391360255016323568221566838623321345516930254215210747976380991006618768437126245705322824567670334897698787134010993853402796958206101326521589308648918155678048313793857468039861747930852910097423465115810045056786051759322214713690851718308532844390604018075785957792877664447511344201183144526976562608365876596965586894407969640634297140564792534255930403178796456655107956853464342335207072256108, 68912623136624265944945748038346026187161935652629445382274898568733972381878437915761706218253211870783275804752953437804298400560172166223261431767399243767615074151984686932426874154289481431869021906010725309880071565472675518080076185609639117060756943749113312190342000436081229471793977730883417513110639952275258055310691238288470529905072248273563907385006762204708594637590376937119378045781870925409073899772011781359093583645374224303062822636676622028228306342000, 80347250058551757271312267466603497734083913808466695091620627437793184712723698329871149447984431541798594909990366178101686162451683878007825463614928201040125306974154314558787991843756030840397997683253996638833164389561275162904569511977309520323370365424690560416567918768606503461473392061295102014365347595315304214132062623747189761267083459976172905996905228652850618949992647096427374665583323504938143116741650601940806931502036903105188377805572170795297729368180, 84823005649387672959502613545887956906047159957693579090988961339956429958872006988523467575334053165907892431308968528083082429514969745160714535897858504352954595390971226315972551495254660847292382109573233575186927439576665861031437676036800528462883517436133905468713383587172135343335336739756646842307656975719025823358865974032533424430464950010700576940928827159237781739263724569730213807680282742923763886517175613723887777632207886831406980855830847952674223526008, 80347250058551667237669367340142059072494252714716420231386235872493086188720469351522092615906270763154628453544751585171210033727740063191245751086410481059352790548177534449820037210743398635981848744677811990857386392752496955884782436691673390641194037223152525041759595832529103047284984832938841802068497414314915497410616973527457969589474904546068178708558486057667045920174649040770397926161452050241601218025783499408452521226324325369995883861549558680584926515324, 84823329156045384467107010589199027860622176561009544826641421755135914358140342673681725088006175243596202609977274408943857361680285448447469842781392078014159263550282767770722929426925330478537645390702222429132288142341808232987297156043697734502115020037249354023853577200927538764023653238260404384035413993507164603615489039239041375305699447055194321549007889252172261009244506977180014545469085126323466375809094878873268773836824009802329279215959973776541942186112, 80351172576776419279512442942655340415735211362705746817021379233755044677656683566612279273222165755000708595615710448045542770549943888149884065391315593149001608400276272273947897270813322980947564171054073766405147490401818402523852283849967262676104258824164167443672145648176636671156474055244208508845291764785899865166832190925153464993869597865062651805056117829167096661013058313912945998553862034564021730307210813048290260806928479224915930122848919277789927882884, 85151162735049062285880426416506954510725537776643008865126156271590109767921662038872546296601826294872579402539870303932296620021346438527429243801490336781882905310825678999234750456272147846803112553939552526944659083853486990717076625219350116517327978981241512837093762364179801914426378279739550648883764130321682140766891987914026170810331345553963744034461369054832791871488367108332491898709485557268933414314995884994325865529237457063587066880145175004755547586696, 84819891897807240289790851478940703843062711249108214726121935747282773201537846193916513387656108012945827535708514805580483896930712976353300379642262519455133168658864408703850399287289423095705282021168498690389694229428944663003428240930206977834367748159874016142256902850998440792346391948628396442842356089153605208674095537241767092273500348828594760243150803881066043934359492568716295398333241539201492948122594764227718538121268240752700547503352403171589038751884, 80351172576781181647303161835503820491238112521111768339686178259300537197943638321013161779196622178278116702531258605677261095819253816514986998358013183204524440452993315896411614064897800585329048608747288236198598039798101373806898508093483840533772974165101663758540418874701249689902364931459664004564210032644652423232242144602975904689950701913245682079880457491225265384821408338166416243108698196614533660806789308154824460775065992685615180127731647862849928134800, 68924228938227666246384538864889646944187060127853887548587428745136063417554630668211715457231963589439588356196867933561797013252600988065064534528081346683069567560890102223487005317980232109766663367450928713460915175616270049116075737360664795820971768682646821066100352596305186152660319048411066569091102097808319337257667225337297159080988521925731813205311340350362279335175115383708762431854464519602148301861738133158912838459398585005015845889017561843796334432404, 86976751509439968763260721776920360637228196846062635579799392710862072412477724228601885681231778411399325923006904829654835475595633000833093143727673382843762226882888675402261978713292302794765398594801426788852112302247388889166882275969911095243551657684154804823282082985080834876908924615819879839055697507660528864400827884229580714024780254817782817174524296756663147536580390268752766893704134289470912580201372094470206328368539514823012328637516685129469377167512, 68924552444627321914426292372732513692658088015737735814613476476993269118562227616869029250077253828786550738834399659940727431682113429398250120225945016927375354959212052426354650889821148544321262482432381192618766403901115327647690430770818099504867622875235855373850254649245567055573396776594865327826397163899629108567899964613918205215494062218158320930492891670249419748667082108604608929517652963171380133827520260067300554593644884636356385800073860045818203013276, 68924552444885391876923448975975957061164611125768834932204487639652560980944763902947165893950971839030238872814057881239829523323834814035113629180375015139434608948160263402031152559129930639337968129099487580105660402817715238761442609720901696559106052368160705935698231485255737761590046856080413543075858697756851180099665837887918482438420762902656227209783186808014401094370103784427251657484816494611139855186625304205952586396990440077252876090956594560840483274912, 68924633321291720957167051965622029141125275824126609233158391081252430991547473067962668512422989212263419848134633415147697596230703640270881660389025556518045715775699518215820926226490009511922077367250398890356235762321299785893576716486774484498631260322373838900799785508058996302371546213188426401561686638777221468633047099884308329421507376242392348604074014580270321386300972225733743053221338270772775904689864168756387726992233058110409403686559852488325036064932, 84819891897807221459230593029649164568450438894713065811087549247308003357438606976501005817661160439861054052635851117885433502368686612015897796686201763056980605439867991381317323743413956951662027810209455528453548588060780739155973112447927405740343795947428317772112387328793558983799134312516450367446604632936719927150001574451042170470321455987987055339546766106044735571063045148501511788472842348464338520305435497802039110852036712123379581329784738904448338886824, 79029162501547375146651622062245157742431986038312814019182738575335996189925546973295876682268436004793798191134390269790660690011690757236590331076577928373811006579447538895953608810912122708195497719461751187626471329475068404105563559720791453399578827969079862987126426422674155428790750437199333311134422844348176606100914653817076847845896153907638064409690980845953089074360166697122071527073257809053774517316248805656073118535037381183419203913871549509108872626348, 80353396685048157656992035686826406247859101335636100798841947517407673207989308840112143187842199683300234560437147962505107759827697668487759497833381160980222568850611329777751698589974593167124136370289792348379746705712778802520485123309106192969099367860517194241644958079321284359301134188315327926348024968043711612030974878360432726278708605501745973169878459146827138280276206035037603914349184329491566893356223474058364711404904454732318851414642829969547573723312, 78856248183130387579707585227692677673800427658558734437657867741419341726406226733082276808060974576055049141473235054458592238562555790638116447664306132927969749680848125998871745609721037758906246007781180008193826327145880234253831608180292545862347563186350266141562974023099063993960207451757263517042547925265737310530556235640825097835828306753022752145406005481781340254502738716605717649248581610232917203982734708160871322538129554117265189779166808080736808468660, 69083758168423826077890005299681024050832537571806239528095990346656090311756985461252942288294328636016687920761961461238194907400518998091929686566866786170920030951810286316999820199802071170315384306119769942495184958408899409624717132777530417534158696147993075120835490116140738724017130836624651898551158817883088926586446996315650632126487840309829995282374975287655384025117676214296849393862936121885946750374022185704977435081822049291674453957081806242317345374392, 79182464228845507864481658686566708586916617827664667579551019278838445085492791950455232911160598382939669935931435851309050124900143144343242576052437852506271757999778887108210039357586820385224197581901086688050008625855164659230841284320176522263328239530618773992595730537894883019790188279150736456154564464836889798481182320784581991276982307214565201077013256400040548896260205265402091987647653840209039654923940023462898184006751462499782896232251376510175550013628, 78851193391603603484666554221519402934793520897185535244673281305750637549623494303229180562599878290456089793370451216046757199304439337410696787108393234878733569437834230757755637767720836286441957348355362916893068334824173762056343535128329510547588354442940327838134752311297772220388374749734602390110141407125923923927986251328729464492358564096448249839260118011108406232950047648613604310123670380717048554383048041746217300436425094096996420154209780079200729219264, 69083758168428703782896465531002981104577188797256057801779826054436293775871246207500765166149148921807573726068185250412003747962236525334846761000253378090853510306572832090567311793231071316632613644714049849345038856526578013239308553944196797665447337996835893243407397954474862385805685725859481639057978359294120136593194472451445376775506685429703891616622459336882149773610612668147400548607173661944813125123477146898381783152166834374764194645392078623983389835460, 69073729462039743543466124453953836973693302571894968832245637844614745361730561508523780031630032541574329728369609003116650789782674525330790607652059086441152790465912261411758163208173777372704367658080469240315550010752914018200621211488157556364095217328285020008124578074102476578225986276812504731682957568546520969953253464026232838448088086396716045895095841231287698711968859517801063686646942681485476091567018505037400956261673839739683644355969745048611345268936, 69078218116915338303811794101446451867507826502823872156791703315879571738403343740909423122604271392953626077932820962909615523988165287906660421787255602667988911904773291337828932962192922095734807079390688479780889390500228211410641139661942150118559965215116847252350804055447648890252863522037638698830620550751092020144071008295311914726524206974766406795731212521671842425164018243423813661931917983782299001135154182874193906884605303139827338862318712143220750827724, 69078218116910516502047587328733846970604407639483614682273811664762956189073014577028885090636254699339978838742339004100177354278969362600382981182618187737191350347552151473656918829834000844012472943632602610121412862965922630643610411210820092037723025264299344975524206326650623938880456505355444083017208156394352984615428938214083002193042656410813655257907603051150738315134672164776362894703314962601198323828597529133493020051073843904009208282969560580361819066576, 69078298993579765003946124321418892917900025221583442213844519161663214264150910915231358997560960947359954619256784621529864846875704950409060116993069182806142239718120255292825190212876009032288478317605964643463216996694192008425638578274208707914629121248746253388218583515001972091057319935237354321502497698094320527836408960665254207005514434986837205054901800503756272696177012919646103299642054655149749266045743572727261154472629085929166357911399219764370984489172, 78851193391603646441898899632705795805432073465073264951537547380852392129112308681126649865544818142982959718309397727902633405351133515296405793975432910203520635593733187351409347969153169942363354798157310690499809671411489318513826893817083405612941853550593289368213247595319384761837605342872435205950343838155926045797706278655660379814540533311153949350265631493442736334121887985030139343862977112504696777002707697518219554067098719442253554405785801466990068924632, 79187195513714496891282468563736634612829538379803758057113244193491274505721414049920097415382971485198139693551573567726320905630727297341811231181595532821811957872752779246189650017011126244496760461961899861878570946123380042417198778029671657576607854941505733368651904307167860462437434349625075480343927378850054971966863423978941491178616116447805017210861460975807587080758866427360950437524964119113533151161860522729825715257378413246366703642663330278269923479772, 69078218116910573582200275644202863638407478102593337358909202360333385515912364378351196830065076122284561934266982221859399764682296746770744286662442585489043511476557182765426343647123026375145898230647451613492113584300669513281833864480645741631450926317556762123728285678887864060661663560422572518492045319553542282775573311212721616888202183226564019169642974228518280223779813815248881486140240640071745083017920063523405335747315729653342145904611636765019259932896, 80176762040067564249764061454055079982491950431076751759243027168636666758723246901681119260288921229645575191187741473844563611999508448089428770022039986773794565462349075196790419681852104955887882603845003946010299005269219697698108043870601242166011349233607224342332418654509478078296028836702703428369005652035706733273050766554998379759756122608476395535515308424388923810606158276456319349502092735928378777021445569190280370055658382120901017884159675883992266522852, 80181655078265449634057739860746660282838371358502803114986323646193771554690714175844614949103364867278184352269568606653407741671583835830830703140299594459498501153948130325902545524049824159670015823611723079203235011463233201720470336069258599967715954845306348836430622159414733964922301294243892071783538051370966314793830262442358610440868540758366303116385032956657065055317737431929883322986551885345580335728022991419124414375195590627672781408347828382053539156200, 80512925915507223376822431938683942471035412746780139739591247160992757391176303495704564494088492153166784068272468793675402534424126217503349702057398441285490903742734434921379252259261007331923622603506671389485614717071366484620227699585254943967575510746762311811106422402271468279302388498948537601794326543482284371989831502426117823756464286646047380127900585075353800053305853452511099930646126939696677891409726951609290042268462325539284103391232002417648835940588, 84988600629673980596757141151744794357292702407657471067623265131555843112780153101834260156125100673971890981171556808711701379977538042159410813685583046625524365832314650339913699691664668338760070458371057971179946862336868557296720685762769625797342450738535436534243491404858440974671458917272169595558873211578862612402063830743840838822846283851606292860761746430398797601637011462225296975977939106761496659032436948110519549306272722124894293239066466297035686351088, 84988600629674020023254358854182156385570397415329511855303540453193751711549521509832221432325962582142893468230744750591381105111008048314159560178126043367707357620461969328313968709877679029366131105888177830064238709493118212381944580974827464088767227918133218395097355657304614713899681274413568561365259917690758590830898522670222785669344616801709674124748624291112560643002931434998547918675008052005289963238441260208613515879819997070951666389493352515478290911476, 80181655078265301343351786711280761310810030660818454180363114194603845247987841226341727388795574572927545945920259752040060878764399111812269125921580274647818597923625405263526337131383943952151337965895478454239918938334522846139191274113520967043858012525075711402263345165651112396538280764177239941094480072321917674558277197616000278810809458836723551417314256867429992724278352887532062663895779782447446998935107941873879337411396492940271917477318650641368082256120, 80185496719890812219430588359438664307376661584534979869414780639041789167619611757987262919802597982607519072385736234273112871850309035810785590030805238385897803214808911586514308608830824074198115541885707072603661370235462040738762606747952991609244970214343645198508120451229403129671190761478991948860277827871577897395961024143590600738420194632411782583149762531591069583000761129202419645380303107556843156788183092190893582015507358096192649583355107283070122066172, 80185577596490053385194862313794042654050989308987299201530265552951648392388491343265071997281674311297278879005947473800060139967948709089174778960534663704410150574574209008671544579489224743721686348238565046333871704057921345788487050252336741350711542717205017438916439722790115397984114798456506886809788061768097640586279375801861506762930735287227304412107801428290435531765084921772013975280349868048539785323059721463081863577306910738470489234037069270576461660416, 84985567754757974627179709304769982344700452417831676759809055384665828874162585548511045392114039678047289884915959616110005589647609245843558766753606921012665142390686975581646858889031747214785880505418088838107621477776919869387317598872144731012891618422139916995682200155515160589203179327731247301151413679397969621053961408029108187316880140533480778101826331248213072094989040737333433360454964339619355834512477734876466990533849873415228853894833718876428664488196, 80516767557067488107647324733825214299599312125255045635630781947802937204413428322647762530772129925875790526008752074352965345943480202200138484243047850254307583841207335256093974921922195572509750729639247837252110101348692060414928138209176042941293510569746605435538854197904849581893864792963362398765447700713857071201307539909573089094400423929596225212204797685889825692263308106447542153697422900391362749123545352172090479969267192685043214607638454525246607655176, 86812895377434039862212177519239662695881908148268944865490065085360028627807026966968760381769325206915956147768708832697162895822173283938142830567012271311816347830006480815907417287879338229099854653741852168042045363110712120664524616964244678073215234778562059962085398869877528145184091161910408782696710065418485282743531654781109095376109198232679250086987601762390212661352501157125718132953172245708129124982196781935328325371349233670542416491596609604596542787852, 69078218116910516502047587328733846970604407639483614682273811664762956227321512772756673785652796061026619424486339748104836172807990075073697278585398316862938169422134918166476135889763797806233949438649613292050005736026126643514139617023835313700920237127372691807720260658205516752266000510276967108669854832014278627679280210590386941847307788260426761905602026590297938058187613138251099789627712582639828975877691536213385138911962593479003770496328057207753536508176, 87142346489726275223604884675241754445589396450205912875743996399364472418947514230236486432807286158996999763128744775722563875178398440673701035628143784629994175255639444249623259622560759906529734929086533679893432553242822903056944786678740580945402876185893766100362825650647710644916356933703420452666757720228395194507057226700416373032182321902278054736917593709344672119426852192989361515159298029593463512010896727860798288762814549487281282338707763989442387738900, 86811075652484434396949474417108405495764368429613586967067314856783549146000084923486318037469888299736118606354000566833420574171808242985433170885002973567491876413386165168633287049829203538914422482518686480132231308186282894976671744823338690451273245269087760648284981077826794985945471376605889459127828896687401988840366285482520185520515657641767258046869363527826357212952996811355973697009067096487431509902710963091950802374159081235943926523776603828035528409368, 69090228301582849219275351487331806978312399036345370882905501508021185585106889730840057798410412023402094659647169083433045140498814474010716461268617129405525060250343914981863106300897214428625320677517231326519529699385369716487271652826137334310472875843716678088735881957984649535703831192617631450479696276763364291220745078836979481159747412812455541748920122791105103454131674556836094807642116785003816383056217829772524743794362181151693470793281064947449167610140, 78860089824775072680593845731811519609624745910575485090330659927726706141779976953512191785853568463520429847357496376000006864832251208002518515404358513049341081796118441097582189977351250991736213985593112163119611188135233891750266582375268835954066102334409787363993267078603452485770461369829536119674303418710413636306059429248592716026797158071219276426825136338194548516892314284280842392429148186883606414600338396717586889049390253137574427812480243965131859562784, 78863486644596640809262764236415879240794244869589351985495618937952940517300807618701344677810504339692343944056281572802385987959906951215958736563781012084239695744140603098283108409637781886869789266302973089509416973140367622455363822241296738627923426811670606616579752963544679313677795821994708196226489803345906685691637762538457876061967001710186869196512586065112318016282302326994444034633280940903053757499900565369603445497165252439294339212183089968078986461476, 78863567521261044559644982659447169259801313757990577640583229582516676012782979225885402606676643893439043271100531821027974482762424071876394313824977733858199234545560966111978624883086965767037773370087566772650771938015391896520356726739954825939067553744697618657174841629371493559664719642853005232155801174790058222138226824655236404425831761618938035805785839888030334269405471987284145905719866351263530844937837633898663137098618612406650079457567431467725105725736, 80185496719825656696276761242391488354387424852818821036779804580941104372143263373144091589313131426427663532246445451376477801768468030090624598432925205623998925626819055821583156495675903677454945592635419201069094759490050230979041052556775821611745308412231658796169142409072696090795406416775892282733480890471127434677122859233187846982077082869643142400319294689842034493694892869287770549796103520502847169678572300380769861368341889079398573866136271579712868401452, 68918082311615372553676917910007802905081757637922732685907620558568984299444053182139860316383356060024952768384010667295940816150421261489626660605569783735853896652225546749187252179554186732611325388633568614966509086075309511744794701824418315316343201433110196183761541660546807985660893205286149320355402170505768001675991650089478498070748568803655292210720131831582253262406487272924225541940476508014071359263171200165968130675710231396889534957865382841523895075120, 68918163188137575520788166009293203267390065584776178427626321940350987769376928878111469561191795496158790445694638130315026882103074695650196810368010753646039066076788961803799517221090629041604113819604543226611637569976482014682164186184082581289664406905045368082657390319696059012186535732223291919775071802458787518628368165204487617705319510776663614357119277621271851541206330207839410013839808805291634429860787920396594128188962334885532255655355855598005326266676, 79016869248554337822055412047348681436431262065908997278360400943133693222248233657823712567057809955557511696251740829130747431518602176797635797184955252806806763212795289860671677232311838524557564101861372995559926103089386893986017639455363769309182470246759635901465773718275821518441490975786883652150946285238893533550667705564429850565047177578500987068236384627124983745436342685452530638919765382355578302115789623204896843858356691605688027216403586507220559184184, 69249353148715010243240628429324374912938388401399335097724429742938693782341036209135365917724656669405247552930969528048797655603453905085514804040969889493812681826465652165450919496979977237342472106716221078656155543836297886966874713262396687736550836809540524736924961104341706254047829262187036647216038782110794071028043299343641682411293342229830187772170148482513725381393196435025421135612614571159028056542154587879072628718948090196135524499547114779806662525244, 69239324442326050003810287352275230782054502176038246128190241533117145368200351510158380783205540289172003568491448949184379189365439965171398499552529488227384738839427049841435928378226827547999913585782646511624968545656602952975636836928761438327189393720924407421773027783082465579705565330320706316753954064283556383322499789940749534191335314715598832358810769525576523569783656773034125568688150877200845218271442078391077603719668265775029049652096105715410900468032, 68908053605084034994420900378896222722228927810144426577598581144695965308605305422692393955637583932609936194917588312551832734485529591223783652498473263129181499967948617447259570180855015423480144169081344909758726228389701517014392300625528180053729791989510924314177520798040745214577786530752551969135883115497085516781943690899380136472871819086346165744198069748581660014804736486082417197020138217866446316175062133386742368914733083887098507236224437825002554589508, 69243893973870893266054423843128670755087148433887429787529827528042232166098802101206384373767736111840748536441123085240774066647528844790065441685073875521880402129094275058275570126007106958925501479262779793320388523047562351030876306794670590374136990012527669624086721773270895281313520288256783845939147233821123050104027885348963834055798790052325702388203765978363209138730855457022014076012371275265818366935427883343910790760508278790008020601182513804855875551560, 79021519656763762553893610737907356111191797211080296023426124556108218833096674695325565410925039820096696716106567902205516077641962735425798407933658468255238298890180010827076205904293156817077341676202701837148660076281871458962208177892506726124029464815802631237439118182427121092810897506849446558754046910885716317759955493098052712149586441342639250756722929925208967339014003208953970649065444598529398993725920297344502341048648390834374205748635735381780340785484, 79021600533428189254027940957879797161583995929839866080478940401891861358844241869647501285881729374503025257148423993412341262403086481756071723376498561363960291025849622782162727669671483525422626533625378287696398393907752927237330941889583150684121646248873593673647624884058616295757040926602873337910872472832714249570411139458817747098639374193288462659166978759670723010964028198329231786973621805461652667788404988228435409138768488682074783675509732515858519232848, 68918082311473148820649030560611632753689441886641941693496588246823278640382372355512070037818334420205327175089031085903537172452352735656067474587427072295974865767913286338824656889442715325166938136463362026452025206338544434708030744792971917527975732418529050078836569108532563394989704478929255712624641739929792371188573478755406281804568566013464217064153633450380216645168485984062016690605610385343310064567891864334398385356801745063460449533130166778071836655956, 80342437897023119212002517310946157219460304679173035967879921256288006405058817905284563155820560948907982503674809592388752944394513981177645532973482303064960677910738497641127781181977498489185815869490514676598797467013617767677156712976357903765751943408991237215316984208391694868885383901414480100050405913820263042361628630003468184285959499233785783355658925787282432385429043596082301465766595943472863451831224485549707872522355127867899705492673585121771131928920, 80347250058556489039433574112854663969397671578056677705904127523609701718551564141110032489630560488065341091109570695568021844561777571759463258572434863748348580437839018502175543631847798132712590475789043017887414421505859354093026875154356852539810807000219889540867534207985112317815556673159473279803001776759572891296639149116626866994683342064972076888692274369126027666484102298401177846040711774985123894665897844240669536196444971985692619727677594737413565890908, 80347250058551667237669367340142059072494252714716420231386235872493086168471264424372086836191631218732315011285793433344165044776676119173871795695732957572261170127013657417458815570020719056752981568939450610060578916187295559966412450580126798053304357656523952891148660025962274630705504369168662680147742991156934384780316878708696093430691610659723485254929818172320323277642530643002590736007080543307668514054045945274649526838845510654781013387262540235934501572960, 80347330935220915739567904332827105019789870296816247762956943369393344244299131315431968364587250042471669631869319219361422891196485401917610194252301469827639236895831278457352329911921364612849488675170149815303442164855739369440359863445166437075089302054130172116102142979162224112621995075926335459361271608671895364516922367918547630486203647625469268128723601443225437569518178124808100797596465262643220077881459462228390832247587308572272146059881347361050637783396, 84819891897807200863296264376161624367691088310533195002792943464506427534408044342275404352913009107327265976210129116145858176989393491689705201868660913928635574156468914360340627730761378652578229195401910623092515422562285699232022118030598027751232691413463587090155373863662679804594195861797882922673318388580202422594837605581699684301039455334203837350837577809364843869313792573084447749219527561788555738241993504474995175239679816499998165488134626520157169582440, 85154276486629576162407423452724039784111557447393231363508551741693422930129722540448957172132804350121014070551997716292796243418521658292010381798992700558997243369594296117768625651095811364130119624404749477208732100526832829155511374614198942338129868238640405804714879643440266701719047039568872576721418684236050168463266958331094802821445027680574703714700442676856360756937748034737730932621985570273447066647185269179920018964834008321028715120758761715934975938924, 80347250058551608980606314317137598762055573110782346156997417986203258385771620453218256107962001703025570264088543272389299065219098824879520875178501407227799023938882408271222759403905770013044399947805874995741563579252864041367781023582140477144835666294823457434997720261284435865634020091639964037466517332252188770980718488587244614855541242210629670868026927021116549052360087621345316130599707295330049462542019333550353817467748039617257463724802063555484569768304, 84819972774471627563427963996475782865177214960317236270046441279557365086355636022487209914451386099323374625850822988583030278315800608101685645675769728332600996161588595802349904816918737491041141262754412016502057039021519093826955019652471329283236800824778122675782314855147922186795320479125787625915444350684917368705340889417746654731693091466300231293989894714740379512950877457226172274288874192773076659987504355535170332420718429835610227409349202530784801161588, 86978490357720347499466705125096500147127450598232836842124368876959441778715290868849922476676722412102564142871230407467904109899425014980093405458398311442846252035557872843277635849950211683031512305565678772525290355100548481289310462444135318118900455192627464315709238148542636332686705204826645932074111057669143982456432563033781979921490392436962872053022302968040652631061298821755698280732422727789327589023135120273098669518708683418953356849985097694362606211448, 86978490357720368095398087506966763893242944112847345860131338788548154519943841306426537635311881983352867268179938321307392996146857104819003867488710894205933146150688250773069285261527502588584058150311805748216377519679416402088713745869821344136257541175728968225287205466413343373043430383798139491437262460817064175793571634837739023526316836782304688865077892096666712795045101689210928092630157293666664937739775378728455631926866076501484153087269952564683785884028, 68912623136624181207399489095794083917433854279063800143192168491608505265203231895564213991532926412826742415492472756429026551700704601675484654330063893863653491032097393704904237590507100396470726195051383577356082353104920506574337732534531493853115999960135896436138649933795053143191545323869477244644166826765318146882722480014227196536253221264910630756582813409522429582767527321351825139653121374220139386501402987204457105951198127118895325158849331612876952572288, 86976751509435168734338332242937683997402109598337049000754434494166604818624824278080850041927819964837571710614353672040511726112715635722100345592203933630722356980346804377515694547727923438496009386757707236987964809940797900492552539482410296929350840742298681939500746181907434751685317601344887550475395237224574722179747806786181794558935542076294630868454280979729257609430604167301200316924289367679782904771663577030690647892057519967143865473546919785377210057092, 69255823281869155679619514385653200786673598640488648178850105196523585591576679732474658549985919770999768483970985254349021805002288608212247086442572257543602210669342873922696778729173792283435030470786606519329499685552609454031109635720857749381361515161373397877765188313965758190819300242263781776652005053983033907024594505518067149122965321906816712733729695246394300774407495523603358402351455786631300284669862517030038464687712990596646676582469558191678308516232, 79021519656758940752129403965194751214288378347740038548908232904991603311890241263597813184116244715958499257435366505289557867478471592255979656328796204819594799587906339139204349571889441850574399177214104509640770551152312975178160994516417111560452379431473192432440011163052750744418424334113719738343335414069847615054367941007264737509101646578179556765316079684495481311906552749031207105912264949610640577977184377848359248396162631449353239234426148801829049782668, 79029162501552172821753282181156947096988436970223845830575139658580794573727668148013453354829062849806192423150256192269864646178090439693789605540164901269281307596760484412127787160994532720333271655723655609897066775655053882612855924623348746539057711967966453849357940521868453338070866475063427690186473190983847651288988786698986996241198055710799967463661361119265566970596236738737047455414692995770370080280970195141775049998550896391318359151197812157831796556176, 68918405818292350085095818010559999558917791747548411850174741947017950120359063770899156526181783922732261085156933613254130089907794515261580888734999155058456788397904284262904241598973135758415760699811718191782414895371574075285096238056734892355572940979186494814172113370163235711142959499928214632635906476514949132553831919380250928473697496721990014854351437549825511002111956725656401265654351422600319236022207022001199909692542825392463022573483719061679334052244, 78851274268268073142029196266535536941368295011085030530187310424136830974684501397183320941122725645411766716772327333542628772934359372988846632023552347331370700536434129233175803939009748388263754454649099772363209421283300010779794847361824403888832940020276914822737770417381574496699064838623333462818117493833352538224376278042625959931247269846845663167408710901817975606292704851342512192779836581487891841810277741836435342706823908809733609787843344922021100585368, 69073729462034769331809758204725501223866668978867888611285700782079020981230044777286925960095515597711303791245828139248961217256581547766239150889861654436842733819572695597993924125494117293357717414361367030373558558558642100631999431746504693026338318628906855286313925454491267858080683943069016352532842417741478760591883092812447926820649656461544366755644444764199269856334650182225694083804094076008651434406332643877403571946005847881909824443145475356229842125212, 69409488954157199726398586741450064563448348038030707083474431216544632172568592102840985125343243859438422360764939256156750731151002978991596066859029003659957552551430201880697416458006152851908433624801055983635503750610895810692736031546608920537199209766064418755515296379484478413921046691105596743534528423758453704555636304258030905666444277560936801914106784721634088775340244737108491101401292463241920361282541678742809867447078705045151029031762512438851990340000, 79187195513719317516136240479589574998771119142143853654164248768270879260792133055622526662088504538983819174614870024536674620301326292309203427831476741109129789114500994547522843068107341680268036353053276290743819888404726752893101943578662042237948982062299806748832622963738794843251311282128387259872787473207801966862178386716794434888105156906645793520292011952965457622445836900841752079274966806902249309627903460115874897737002786495433192901261243107160014258596, 80508032877309425672346680209267551027821504283316313263824524944790406411528607906919163907396068696505656344360864673283329620230111253362506184399899678910055297639697874727368133118026448728278975216477954352867655619350932562484361967551782869722808013991649901125556972551834788463916670377655258974455570467833558350252701570593740465972899554712236755461585764024381674634978324707685662852124449856006414895147626415387579747475253721572849201616793689040290400649640, 80176762040067474216116987442802499670291321654359203476911442727002274267820610359499252728007174821456251345309700242967857718292147512846506223807258016096917936479097332023765116932714950107265254105402908984581452972416391607178875179448884897382913342027841695241763357056451354212959650062037839934198304002510163249052455277686915117685598859545053157250675280353979584337876502215381356620079467598408985305961783435116554805584784054881211418162398603250379762565548, 80512925915512044001676203854536882856976993509120235336642251735772362146247022501406993740794025206952463549617872817899180387221141128642868278470253136602240070662160002222622180795661982995903285152639617471482574233628714648023920640840512168653730324246717065052261038989296786068255970448438413980921742310288610255322405192747922140724627841936818784842109806952892153124333439063447193864124464415116218908762537622219391263685714210417871499907707766511054703968688, 84988600629678841825018565626894761282473816278669769329821432104310367257504983185854425167674872685019571090285916376637750034165597934654733760921320765698110227610248007699557826685330239654626834257587448771300746548360864537964138823887447262177490843413730282887327648705178264129804076867536457179221916891889576810724442647997929213058139331800837519432576271079723932423261023908645730118782421293603153184005051049426220069205381692210540204170325073109767356334516, 84988681506343268525152895846867202332866014997429339386874247950094009783252550360176361042631562239425899634148848141978816600190880842706270873993895729101145576522691139653741703303756168645055984311175812202748256150433599942422350545706976056153931197300576500411422664902888885738139868571247692664237293676528753365982291891163026050081529812858711560757509022717533542235891153722237695746948401463682449180485699300337251498155080156618167517460887431216386860093880, 80185496719825626685057129851596889501900270714016063465722681360785151339587898896293025548938844624264473358567162101281742097628562325238519393664172713084174796682260448880165123436644733907611142441581312911144523499021708198046030429551448372370302264004499785648585062503119763232548915276213497955864460486204970515129465005415618965017995458990595035693437320070631709479078752514687121625549443590221559661899741091790474242104334418839391883626183710168127699878332, 86811075652484413801019600245708890413315022901281370025954990514547115837293555683036095605378309858886091157175161155252066594029190186567720701020939505678856173049993641440162783683357639569266105346691683003942603718590526181508723760772060857329515530929121847562489037121087504351367297023097080447409935250621778417250092059055059756302029537374767184748373003553454306051562286914534452124006519828331656131339704186381884008981749248158971596505366825025705224929728, 87144166214675924234551152105508647291784104144911065368336350077047825735524160125613642889235073448453588071640355578068772271672313020574411328329671772709065346359307371620841544176379831451504325433932357941184906418696210784590881301590775186476645412238749434812822827989789392040313572620031058476896806022933522703610201412897188646001363545631012701801229044611911464058960163291727472161246730285326936299505675047753841983821209845152896428107205782947539877384644, 69078218116910488844654016701650921368679396729027692119826472283207918384237747301005552173926539149941075771770383146021587510149078184783493492891478882150132343542892733416345142354379910125609228463520139676805590933493598143312627893217494947400029168564961653337227280273197232269991952384277699278025639480935539004990956609997823018126075079162560565700607146600436688537258530562163381574665104253231485506749341407327228485126542952578971398319848193897218933821896, 86811156529148840501152422255210582800041073633822114119685082810150271867840399176848504201996861382429772060816158964927329246428261698407363194717556075522998797095693227975877767448738906843251844519923174111844097996830021928742097141195807413255083020153451133900432173194652409287848336990744711540941042081857229290922550849672667323034240651474974502677179433141706832579081676914247644050848571269658117546705335166907369642887311704003117341508744782559740616966604, 78855924676472610165122764562396762731657706067347082786614296519380947685897355174607189397506496525378010150480396416359625042257719802553916276287590297262377684769070463203509170098568249548357109897012871048380671773381750118825554669107492072451249018963660126387664180541267770833462534239231961306247787267244982124095046186453809909521284570323777881059386481189219716041996586142036879856662818505878916686756791934647342747816931628331620061763285882766033153757648, 79194757481838479282097445079478340905349636574367123126519743347083194580197458149648054106404570597403866250577255604733506830072139651788710408106828386731103150471423758218000613165340716021583834432602331039349831890714671448569834666186610491030545315794280927574657225112003995301544822374198798965604088121637629238408052712169368744914057112709394343619747202620460420045423570383006003679272410341814597296609232394884364551416491161011902376162570803941390117994964, 68908134481748615281357824932244059136506179359117705383073740919974478023838162864495924452290258138180964334770537688416496832755650802200691760390672146222790423361205576187619739351342506261524646648564830637568315027563769021083071956578901897119233996608150482470189114509532790438004679869352662705132687678463046482090348269246772543959773069213719662604565602963064551411858730897001397889021505773577482806869368177458904340464948551897199440820701004528531958219224, 79352790494005623976480403377910968807132318746287130950108852456773279267261923057257127413664012286581492998656578628039227146678384510338607673242458382217775603859159569370034953914801627345042581563841986487813516480871828120028041186399289385138274068818650405127917036902851018317434326823671430311667861686250850607043044498481406730907681914022354638311053122151062949006662022080635631567997758678019960430919388162715007037784509382588350276671418540222610146181596, 80342437897018208553505845268631778171929062823082665510598562364385329940445349714093784732465106486557650141042250589894118153905032609533805228488470940333717107379878372848528848467393110102336618243314598584399645945775700270650345172002156484313848257506212862965225747103588537523124923189108130515309095776867771126691892708827423594231682193847410634587048012690838475837158209735468521150629243766288603906043100585952273000009633263743197250038066746021104598303200, 80678520895798350462020366752858276665338193113263512632586855424274762152716812503041594492369532954550137373377473853988308775471783430500146144118261290681454549729141225045224556157051508432469443705386758015421052264442707107065341497745605566186904652100629843834151277812427645956387094942206933907892421448258370843057804435221440740801902408511935176910319610529266678886055298309622155996492720651251869935454707871415702407042177599495891168029509245138723486482916, 85154276486634396787261195368576980170053138209733326960559556316473027685200441546151386418838337403906693548794218498968908576824961491538138780819139038552001717834568991420004463849144424517817527549545607524617602962606114060341739596806468198999697898414795692700433218169047801083345705597516420110289587352521706379742142634098783912679933508794591055690686665700357425772491665432491659295274650966813861001380017739391170972075931207903673250601886258965199365833192, 86978490357725189897162294279679368790146362976187603334649230439664770062899420771019110884777141783352145089117413699106332957408061967560123669348211941612727645178542267203352861328176177916333946802275337260332997635823984676457334602955795353122820235137711592342037467153436457107840396659955225903721439427004171248822603315197490504807349910826166351261067496483076392991351638463115185303147226081512290918363049209976069282226440311923045361944442384192892378563052, 86978571234389616597296624499651809840538561694947173391702046285448412588646987945341046759733831337758473635237206003754792628444672204988671820524574801251213679512404215156814621829040188732430189012789488106501787750300893280615086078469844796859076771504340116860900264995284301639215366115470696348371824936753565865569253804609508531252525942431878443864388324599639031818311447822319911795725201642456624096618809926582108913718787208075116279927790387224725055017456, 68924552444627294257022304571002789181225031711657609837343298363277382668685992994774589099214350422868153485579335658041198854447097848220902627558401996087225656443069309754647327945908827015041585516566733216759305382622254395266099235264308010002225124799202633731154538368733047122702292169552052026428719707844232830314433787802521718635396123610187817143708578966796337128205430437705335866135347571749870890308561556836626013111410698538658752178400739976770934833652, 79021519656758917802377292168253600182903248517310974763248600310980360815056473043623530469757429034703536622726111671420480253162178681893078757958425960958118939217355117463796023647581648504238189213989745019427058768835646066053485584389838583882036136718646724903683903855736952156338786878715687765703177061970992805948075947353802632589184439406158720626457147186708799403943352284841840554723241572411287836094428207193756196302856246291237008176034218246985815659000, 80176842916731990949894217789236379382273181466591610812012819597135152626867594761140637315708234506371167076424425402057498253943900655523065978484688839705042876583043555194564584718707578766765905516738450178322715761707548168898506186475906593337639197980658228966368633980797195460102022803931317034702850072217875117711084636852663882798523638200442752675668455165692010966931508657537766448541383038790218846953573577631908215165778686909909701540469622475138627158524, 85319871466920703247605358266898373978414337813876604256504160004975427691670231547785987170413845151504367375657002776605702484466178871288806823859855549954960889356001086241613929548886312464675940726284836103138757509046355458423639885076487708161857312224445780111929967077766710155310288916254469505498688169730102611741805770848871525560298420503747713429260005332148106070746730613694459553118659156509333612035651477554199285710330373245726896657263721433430192734720, 87144166214680744859404924021361587677725684907251160965387354651827430490594879131316072135940606502239267547625715821437491500067425524443528689246030214466619135402863250923799498491990362779524638986319563453427211331767149581592300981661108786511657320342431589596512688363352284623862997353696006618748253809163640782280330660282780230854792846640323638059559191319610638634620609962394760724915470624665264342421449143135589112539447884303510501421423890936356333879812, 78863486644596617859504023328335856176085813425035795117676237571390323034871506382164902600106118035347970721839042539672754142926065138939560478299595371288138702612488138608974186522062533879419097678996118286334188897100683025844784600084433794806350386614015600929553560077011434900237851052295932228579503497354133092413620617643300209579970673241236163532109803690379569078692512724729909304138525707034831743768417215276044526149180612795927240268853465931591909868040, 87309761194967051319749086919682981486086884511394438261331958340329830497064669132950672887516114249836941376745360638381678512719970233571207770390534622105028992345714161744686848074170332552050146535812444567110995726232593055184838693727200782910021840311483371158397879295030463972780294018828049083636743650902180593492525815608285171084215842772477691587177551597699128758303169002975242411806132812304605040923591836759056658247506680343997778147701443987568068411916]
def mQ6 : Nat := 171473500526546170341361977675538300099336331774120633665322544104174100219605801454595518896504334620087066678164855891054089879196131269438359063527694846832784610911929383941236168541840059867533379925337896636669819546858791850544589267585653155350332198490021939053155024679436664465522690975775520282285844102372899147766028810059201623194770153769594613847050315828372173823962174691667508028765175483730653177365015548804044556988731883868838113385078239350679190638592

end Go.TL


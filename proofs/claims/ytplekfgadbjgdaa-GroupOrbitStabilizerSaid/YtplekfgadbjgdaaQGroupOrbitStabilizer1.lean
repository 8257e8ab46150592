/- Maps whose elements may be any values: what a map holds is a partial function of keys, as values. Making, looking up, storing, ranging. Holds of every program. -/
import Derived.Test.YtplekfgadbjgdaaQGroupOrbitStabilizer0
import Derived.Maps.OwnSet
import Derived.Maps.RangeWalk
import Derived.WideKeyArr
namespace Go.Proofs.Ytplekfgadbjgdaa
open Go.RowKit Go.Sl

theorem info_int : (Try.prog.info? 3).map (fun i => (i.zero, i.size, i.bytes)) = some (some (.int .i64 0), 1, 8) := by kernel_rfl

/-- Element k of a list of numbers. -/
def nth (xs : List Int) (k : Nat) : Int := xs.getD k 0
theorem nth_lt {xs : List Int} {k : Nat} (h : k < xs.length) : nth xs k = xs[k] := by simp [nth, h]

/-- The slice reads as this list of numbers. -/
def Ints (w : World) (v : Value) (xs : List Int) : Prop := Sl w v 1 (xs.map (Value.int .i64))
/-- The slice is the call's own, and reads as this list of numbers. -/
def OwnI (w : World) (B : Nat) (v : Value) (xs : List Int) : Prop := Own w B 3 1 v (xs.map (Value.int .i64))

section
variable {w w' : World} {v : Value} {xs : List Int} {B : Nat}
theorem Ints.isSl (h : Ints w v xs) : IsSl v := h.1
theorem Ints.len (h : Ints w v xs) : vlen v = xs.length := by have := h.2.1; simp at this; omega
theorem Ints.cell (h : Ints w v xs) {k : Nat} (hk : k < xs.length) : w.cell? (vat v k) = some (.int .i64 (nth xs k)) := by
  have := Sl.cell h (j := k) (by simpa using hk)
  rw [this, nth_lt hk]; simp
theorem Ints.below (h : Ints w v xs) (hb : Below w.heap.size w w') : Ints w' v xs := Sl.below h hb
theorem Ints.alloc (h : Ints w v xs) (o : Obj) : Ints (w.alloc o) v xs := Sl.alloc h o
theorem ints_nil (w : World) : Ints w (.slice none 0 0) [] := sl_nil w 1
theorem ownI_nil (w : World) (B : Nat) : OwnI w B (.slice none 0 0) [] := own_nil w B _ 1
theorem OwnI.ints (h : OwnI w B v xs) : Ints w v xs := Own.sl h
theorem OwnI.lt (h : OwnI w B v xs) : ∀ k, row v = some k → B ≤ k ∧ k < w.heap.size := Own.lt h
theorem OwnI.isSl (h : OwnI w B v xs) : IsSl v := h.1
theorem OwnI.len (h : OwnI w B v xs) : vlen v = xs.length := h.ints.len
theorem OwnI.cell (h : OwnI w B v xs) {k : Nat} (hk : k < xs.length) : w.cell? (vat v k) = some (.int .i64 (nth xs k)) := h.ints.cell hk
theorem OwnI.frozen (h : OwnI w B v xs) {k : Nat} (hk : k < xs.length) : w.frozen? (vat v k) = false := Own.frozen h (by simpa using hk)
theorem OwnI.ge (h : OwnI w B v xs) {k : Nat} (hk : k < xs.length) : B ≤ (vat v k).block := Own.ge h (by simpa using hk)
theorem OwnI.set (h : OwnI w B v xs) {k : Nat} (hk : k < xs.length) (x : Int) : OwnI (w.setCell (vat v k) (.int .i64 x)) B v (xs.set k x) := by
  have := Own.set h (j := k) (by simpa using hk) (.int .i64 x)
  unfold OwnI
  rwa [List.map_set]
theorem OwnI.alloc (h : OwnI w B v xs) (o : Obj) : OwnI (w.alloc o) B v xs := Own.alloc h o
theorem OwnI.low (h : OwnI w B v xs) {B' : Nat} (hB : B' ≤ B) : OwnI w B' v xs := Own.low h hB
theorem OwnI.below (h : OwnI w B v xs) (hb : Below w.heap.size w w') : OwnI w' B v xs := Own.below h hb
theorem OwnI.grown (h : OwnI w B v xs) {r : Option Nat} (hg : w.grownBy w' r) (hr : ∀ k, row v = some k → r ≠ some k) : OwnI w' B v xs := Own.grown h hg hr
theorem Ints.grown (h : Ints w v xs) {r : Option Nat} (hg : w.grownBy w' r) (hr : ∀ k, r = some k → vblk v ≠ k) : Ints w' v xs := Sl.grown h hg hr
theorem Ints.cut (h : Ints w v xs) {l r m : Nat} (h1 : l ≤ r) (h2 : r ≤ xs.length) (h3 : r ≤ m) (h4 : m ≤ vcap v) : Ints w (vcut v l r m 1) ((xs.drop l).take (r - l)) := by
  have := Sl.cut h (l := l) (r := r) (m := m) h1 (by rw [h.len]; exact h2) h3 h4
  unfold Ints
  rw [List.map_take, List.map_drop]
  simpa using this
theorem Ints.cap (h : Ints w v xs) : xs.length ≤ vcap v := by rw [← h.len]; exact h.1.le
theorem OwnI.setOther (h : OwnI w B v xs) {p : Addr} (hp : ∀ k, row v = some k → p.block ≠ k) (u : Value) : OwnI (w.setCell p u) B v xs := Own.setOther h hp u
theorem Ints.setOther (h : Ints w v xs) {p : Addr} (hp : p.block ≠ vblk v) (u : Value) : Ints (w.setCell p u) v xs := Sl.setOther h hp u
end

/-- A list that is written from its head on: the first k numbers are there, the others are still 0. -/
def fill (f : List Int) (k : Nat) : List Int := f.take k ++ List.replicate (f.length - k) 0
theorem fill_zero (f : List Int) : fill f 0 = List.replicate f.length 0 := by simp [fill]
theorem fill_all (f : List Int) : fill f f.length = f := by simp [fill]
theorem fill_length (f : List Int) (k : Nat) (h : k ≤ f.length) : (fill f k).length = f.length := by simp [fill]; omega
theorem fill_set (f : List Int) (k : Nat) (h : k < f.length) : (fill f k).set k (nth f k) = fill f (k + 1) := by
  rw [nth_lt h]
  unfold fill
  rw [List.set_append_right _ _ (by simp; omega)]
  have e : f.length - k = (f.length - (k + 1)) + 1 := by omega
  rw [show k - (f.take k).length = 0 from by simp; omega, e, List.replicate_succ, List.set_cons_zero]
  rw [List.take_succ_eq_append_getElem h, List.append_assoc]; rfl

/-- append of one number. -/
theorem wpList_push {w : World} {ops : Array Oper} {rest : List Oper} {o : Oper} {a : Act} {Q : Exit → Act → World → Prop} (hgd : o.guard = none) (s x : Operand)
    (ho : o.op = .call { callee := .builtin .append, args := #[s, x], argTypes := #[22, 22] })
    {B : Nat} {v : Value} {xs : List Int} {z : Int} (hs : a.eval s = v) (hx : a.eval x = .slice (some ⟨w.heap.size, 0, none⟩) 1 1) (hown : OwnI w B v xs) (hB : B ≤ w.heap.size) (hlen : xs.length ≤ 1000000000000)
    (h : ∀ v' w', OwnI w' B v' (xs ++ [z]) → w.grownBy w' (row v) → (∀ k, row v' = some k → row v = some k ∨ w.heap.size ≤ k) → wpList Try.prog ops Q rest (a.put o.dst v') w') :
    wpList Try.prog ops Q (o :: rest) a (w.alloc (.cells #[.int .i64 z] 3)) := by
  obtain ⟨i, hi, hz0, hz1, hz2⟩ := info_parts info_int
  have hl := hown.len
  refine wpList_append_sl hgd s x _ ho B 3 i (.int .i64 0) 1 8 Try.underlying22 hi hz0 hz1 hz2 rfl (by decide) hs hx (Own.alloc hown _) (sl_one w (.int .i64 z) 3)
    (by intro u hu; simp at hu; subst hu; rfl) (by simp only [vlen_mk, hl, maxLen]; omega) (by simp only [vlen_mk, hl]; omega) (by simp; omega) ?_
  intro v' w' h1 h2 h3
  refine h v' w' (by unfold OwnI; simpa using h1) ?_ ?_
  · exact ⟨h2.os, h2.tape, h2.output, by have := h2.size; simp at this; omega, fun k hk hr => (h2.block k (by simp; omega) hr).trans (Below.heap_alloc w _ k hk)⟩
  · intro k hk; rcases h3 k hk with h | h
    · exact .inl h
    · exact .inr (by simp at h; omega)

/-- append of a whole slice of numbers, as one step of a region that draws. -/
theorem step_concat {w : World} {ops : Array Oper} {o : Oper} {a : Act} {K : Act → World → Prop} {Q : Exit → Act → World → Prop} {E : Prop} (hgd : o.guard = none) (s x : Operand)
    (ho : o.op = .call { callee := .builtin .append, args := #[s, x], argTypes := #[22, 22] })
    {B : Nat} {v y : Value} {xs ys : List Int} (hs : a.eval s = v) (hx : a.eval x = y) (hown : OwnI w B v xs) (hy : Ints w y ys) (hB : B ≤ w.heap.size) (hlen : xs.length + ys.length ≤ 1000000000000)
    (hK : ∀ v' w', OwnI w' B v' (xs ++ ys) → w.grownBy w' (row v) → (∀ k, row v' = some k → row v = some k ∨ w.heap.size ≤ k) → K (a.put o.dst v') w') :
    if Region.wanted o (yielded ops a.tmps) = true then Oper.wp Try.prog o a w K Q else E := by
  have hw : Region.wanted o (yielded ops a.tmps) = true := by simp [Region.wanted, hgd]
  rw [if_pos hw]
  obtain ⟨i, hi, hz0, hz1, hz2⟩ := info_parts info_int
  have hl := hown.len
  have hl' := hy.len
  obtain ⟨v', w', hr, h2, h3, h4⟩ := run_append_sl (P := Try.prog) w B 22 o.type 3 i (.int .i64 0) 1 8 Try.underlying22 hi hz0 hz1 hz2 rfl (by decide) hown hy
    (by intro u hu; obtain ⟨_, _, rfl⟩ := List.mem_map.1 hu; rfl) (by rw [hl, hl']; simp only [maxLen]; omega) (by rw [hl, hl']; omega) hB
  unfold Oper.wp execOp
  simp only [ho, resolve, invoke, builtin, Sem.run_bind, Sem.run_pure, Result.andThen_ok, List.map_toArray, List.map_cons, List.map_nil, hs, hx, hr]
  exact hK v' w' (by unfold OwnI; simpa using h2) h3 h4

theorem ownI_build (w : World) (B : Nat) (xs : List Int) (h : B ≤ w.heap.size) (hl : xs.length ≤ 1000000) : OwnI (w.alloc (.cells (xs.map (Value.int .i64)).toArray 3)) B (.slice (some ⟨w.heap.size, 0, none⟩) xs.length xs.length) xs :=
  ⟨isSl_mk _ _ _ _ (Nat.le_refl _) (by unfold maxLen; omega), by simp, fun _ => ⟨h, rfl, _, heap_alloc_new w _, by simp, List.take_of_length_le (by simp)⟩⟩
theorem ownI_lit {w : World} {B b n : Nat} {cs : Array Value} (xs : List Int) (hb : b = w.heap.size) (hn : n = xs.length) (hc : cs = (xs.map (Value.int .i64)).toArray) (hl : xs.length ≤ 1000000) (hB : B ≤ w.heap.size) :
    OwnI (w.alloc (.cells cs 3)) B (.slice (some ⟨b, 0, none⟩) n n) xs := by
  subst hb hn hc; exact ownI_build w B xs hB hl
theorem ints_lit {w : World} {b n : Nat} {cs : Array Value} (xs : List Int) (hb : b = w.heap.size) (hn : n = xs.length) (hc : cs = (xs.map (Value.int .i64)).toArray) (hl : xs.length ≤ 1000000) :
    Ints (w.alloc (.cells cs 3)) (.slice (some ⟨b, 0, none⟩) n n) xs := (ownI_lit (B := 0) xs hb hn hc hl (Nat.zero_le _)).ints

/-- make of a slice of numbers. -/
theorem wpList_make {w : World} {ops : Array Oper} {rest : List Oper} {o : Oper} {a : Act} {Q : Exit → Act → World → Prop} (hgd : o.guard = none) (l c : Operand) (ho : o.op = Op.makeSlice 22 l c)
    (L C : Int) (n : Nat) (hl : a.eval l = .int .i64 L) (hc : a.eval c = .int .i64 C) (hL : L = (n : Int)) (hC : C = (n : Int)) (hm : n ≤ 1000000000000)
    (h : ∀ v' w', OwnI w' w.heap.size v' (List.replicate n 0) → w.grownBy w' none → vlen v' = n → w'.heap.size = w.heap.size + 1 → wpList Try.prog ops Q rest (a.put o.dst v') w') : wpList Try.prog ops Q (o :: rest) a w := by
  obtain ⟨i, hi, hz0, hz1, hz2⟩ := info_parts info_int
  refine wpList_make_sl hgd l c _ ho 3 i (.int .i64 0) 8 Try.underlying22 hi hz0 hz1 hz2 rfl L C n hl hc hL hC (by omega) (by simp only [maxLen]; omega) ?_
  intro v' w' h1 h2 h3 h4
  exact h v' w' (by unfold OwnI; simpa using h1) h2 h3 h4

theorem Below_of_grown {w0 w w' : World} {B : Nat} {r : Option Nat} (h : Below B w0 w) (hg : w.grownBy w' r) (hB : B ≤ w.heap.size) (hr : ∀ k, r = some k → B ≤ k) : Below B w0 w' := h.grown hg hB hr

theorem info_slice : (Try.prog.info? 22).map (fun i => (i.zero, i.size, i.bytes)) = some (some (.slice none 0 0), 1, 24) := by kernel_rfl
theorem below_alloc_drew (w : World) (o : Obj) : Below w.heap.size w (w.alloc o).drew := ((Below.refl _ _).alloc (Nat.le_refl _) o).drew
theorem ownI_empty_drew (w : World) (B : Nat) (h : B ≤ w.heap.size) : OwnI (w.alloc (.cells #[] 3)).drew B (.slice (some ⟨w.heap.size, 0, none⟩) 0 0) [] := ownI_build w B [] h (by simp)

theorem below_grown_none {w0 w w' : World} (h : Below w0.heap.size w0 w) (hg : w.grownBy w' none) : Below w0.heap.size w0 w' := h.grown hg h.size (by intro k hk; cases hk)

/-- Behind 'append(append([]int{}, a...), b...)': what was owned before is still owned, and apart from the new slice. -/
theorem concat2_end {w2 w3 w4 : World} {B : Nat} {o : Obj} {e v3 v4 out : Value} {ds : List Int} (hout : OwnI w2 B out ds) (he : row e = none) (hg3 : ((w2.alloc o).drew).grownBy w3 (row e))
    (hr3 : ∀ k, row v3 = some k → row e = some k ∨ ((w2.alloc o).drew).heap.size ≤ k) (hg4 : w3.grownBy w4 (row v3)) (hr4 : ∀ k, row v4 = some k → row v3 = some k ∨ w3.heap.size ≤ k) :
    OwnI w4 B out ds ∧ (∀ b, row v4 = some b → row out ≠ some b) ∧ Below w2.heap.size w2 w4 := by
  rw [he] at hg3
  have b3 := below_grown_none (below_alloc_drew w2 o) hg3
  have hsz : ((w2.alloc o).drew).heap.size = w2.heap.size + 1 := by show (w2.alloc o).heap.size = _; simp
  have r3 : ∀ k, row v3 = some k → w2.heap.size ≤ k := by
    intro k hk
    rcases hr3 k hk with h | h
    · rw [he] at h; cases h
    · omega
  have b4 : Below w2.heap.size w2 w4 := b3.grown hg4 b3.size r3
  refine ⟨hout.below b4, fun b hb ho => ?_, b4⟩
  have h1 := (Own.lt hout b ho).2
  have h3 := b3.size
  rcases hr4 b hb with h | h
  · have := r3 b h; omega
  · omega

end Go.Proofs.Ytplekfgadbjgdaa

namespace Go.Mp
open Go Go.Maps Go.MapKept Go.ChangeMaps Go.RowKit

variable {P : Program} {k e t : TypeId} {w w' : World} {b r n cnt : Nat} {m : Value → Option Value} {left : Value → Prop}

/-- A value that is a key of type k. -/
def IsK (P : Program) (k : TypeId) (v : Value) : Prop := ∃ l, keyOf P k v = some l

/-- Block b is a map with n entries; m says what is held. -/
def MapV (P : Program) (k : TypeId) (w : World) (b n : Nat) (m : Value → Option Value) : Prop :=
  ∃ es clock, w.heap[b]? = some (.map es clock) ∧ Stamped es clock ∧ (∀ x ∈ es.toList, IsK P k x.key) ∧ es.size = n ∧ ∀ key v, m key = some v ↔ ∃ x ∈ es.toList, x.key = key ∧ x.val = v

/-- Block b holds a map of whatever content. -/
def IsMapB (w : World) (b : Nat) : Prop := ∃ es clock, w.heap[b]? = some (.map es clock)

theorem MapV.lt (h : MapV P k w b n m) : b < w.heap.size := by obtain ⟨es, c, h, _⟩ := h; exact (Array.getElem?_eq_some_iff.1 h).1
theorem MapV.kept {row : Option Nat} (h : MapV P k w b n m) (hg : w.grownBy w' row) (hb : some b ≠ row) : MapV P k w' b n m := by
  have hl := h.lt
  obtain ⟨es, c, h, r⟩ := h
  exact ⟨es, c, (hg.block b hl hb).trans h, r⟩
theorem MapV.below (h : MapV P k w b n m) (hb : Below w.heap.size w w') : MapV P k w' b n m := by
  have hl := h.lt
  obtain ⟨es, c, h, r⟩ := h
  exact ⟨es, c, (hb.block b hl).trans h, r⟩
theorem MapV.alloc (h : MapV P k w b n m) (o : Obj) : MapV P k (w.alloc o) b n m := h.below ((Below.refl _ _).alloc (Nat.le_refl _) o)
theorem MapV.drew (h : MapV P k w b n m) : MapV P k w.drew b n m := h
theorem IsMapB.kept {row : Option Nat} (h : IsMapB w b) (hg : w.grownBy w' row) (hb : some b ≠ row) : IsMapB w' b := by
  obtain ⟨es, c, h⟩ := h
  exact ⟨es, c, (hg.block b (Array.getElem?_eq_some_iff.1 h).1 hb).trans h⟩
theorem mapV_made (w : World) : MapV P k (w.alloc (.map #[] 0)) w.heap.size 0 (fun _ => none) :=
  ⟨#[], 0, heap_alloc_new w _, stamped_empty 0, by simp, rfl, by simp⟩
theorem MapV.key (h : MapV P k w b n m) {key v : Value} (hm : m key = some v) : IsK P k key := by
  obtain ⟨es, c, _, _, hk, _, hm'⟩ := h
  obtain ⟨x, hx, rfl, _⟩ := (hm' key v).1 hm
  exact hk x hx
theorem MapV.congr {m' : Value → Option Value} (h : MapV P k w b n m) (e : ∀ key, m' key = m key) : MapV P k w b n m' := by
  obtain ⟨es, c, h1, h2, h3, h4, h5⟩ := h
  exact ⟨es, c, h1, h2, h3, h4, fun key v => by rw [e, h5]⟩

/-- 'm[key]' and 'v, ok := m[key]'. -/
theorem MapV.look (c : Bool) (h : MapV P k w b n m) (K : Keyed P k) (ht : P.underlying t = some (.map k e)) {z : Value} (hz : (zeroValue e).run P w = .ok z w) {key : Value} (hk : IsK P k key) :
    (Instr.lookup t (.map (some b)) key c).run P w = .ok (if c then .tuple #[(m key).getD z, .bool (m key).isSome] else (m key).getD z) w := by
  obtain ⟨es, clock, hb, hst, hks, rfl, hm⟩ := h
  obtain ⟨kl, hkey⟩ := hk
  rcases K.find w hkey es.toList hks with ⟨h1, h2⟩ | ⟨j, e0, h1, h2, h3⟩
  · have hn : m key = none := by
      cases hv : m key with
      | none => rfl
      | some v =>
        obtain ⟨x, hx, hxk, _⟩ := (hm key v).1 hv
        exact absurd hxk (h2 x hx)
    rw [hn]
    simp [Instr.lookup, run_underlying ht, MapKept.run_getObj_map hb, K.check w _ hkey, h1, hz, Result.andThen]
  · have hs : m key = some e0.val := (hm key e0.val).2 ⟨e0, List.mem_of_getElem? h2, h3, rfl⟩
    rw [hs]
    simp [Instr.lookup, run_underlying ht, MapKept.run_getObj_map hb, K.check w _ hkey, h1, Result.andThen]

theorem key_inj {es : Array MapEntry} {clock : Nat} (h : Stamped es clock) {x y : MapEntry} (hx : x ∈ es.toList) (hy : y ∈ es.toList) (e : x.key = y.key) : x = y :=
  entry_eq_of_key ((stamped_iff es clock).1 h).2.2 hx hy e

/-- 'm[key] = val'. -/
theorem MapV.store (h : MapV P k w b n m) (K : Keyed P k) (ht : P.underlying t = some (.map k e)) {key : Value} (val : Value) (hk : IsK P k key) :
    ∃ w' m', (Instr.mapUpdate t (.map (some b)) key val).run P w = .ok () w' ∧ MapV P k w' b (if (m key).isSome then n else n + 1) m' ∧ m' key = some val ∧ (∀ key', key' ≠ key → m' key' = m key') ∧ w.grownBy w' (some b) ∧ w'.heap.size = w.heap.size := by
  obtain ⟨es, clock, hb, hst, hks, rfl, hm⟩ := h
  obtain ⟨kl, hkey⟩ := hk
  classical
  have hg : ∀ o, w.grownBy (setBlock w b o) (some b) := fun o => ⟨rfl, rfl, rfl, by simp [setBlock], fun i _ hi => heap_setBlock_other hb _ (fun e => hi (by rw [e]))⟩
  rcases K.find w hkey es.toList hks with ⟨h1, h2⟩ | ⟨j, e0, h1, h2, h3⟩
  · have hn : m key = none := by
      cases hv : m key with
      | none => rfl
      | some v =>
        obtain ⟨x, hx, hxk, _⟩ := (hm key v).1 hv
        exact absurd hxk (h2 x hx)
    refine ⟨setBlock w b (.map (es.push ⟨key, val, clock⟩) (clock + 1)), fun k' => if k' = key then some val else m k', ?_, ⟨es.push ⟨key, val, clock⟩, clock + 1, heap_setBlock_same hb _, stamped_push hst h2, ?_, ?_, ?_⟩, if_pos rfl, fun k' hk' => if_neg hk', hg _, by simp [setBlock]⟩
    · simp [Instr.mapUpdate, run_underlying ht, MapKept.run_getObj_map hb, K.check w false hkey, h1, MapKept.run_setObj_map _ hb, Result.andThen, setBlock]
    · intro x hx
      simp only [Array.toList_push, List.mem_append, List.mem_singleton] at hx
      rcases hx with hx | rfl
      · exact hks x hx
      · exact ⟨kl, hkey⟩
    · rw [hn]; simp
    · intro k' v
      show (if k' = key then some val else m k') = some v ↔ _
      simp only [Array.toList_push, List.mem_append, List.mem_singleton]
      by_cases hk' : k' = key
      · rw [if_pos hk']
        constructor
        · intro h; cases h; exact ⟨_, .inr rfl, hk'.symm, rfl⟩
        · rintro ⟨x, hx | rfl, hxk, hxv⟩
          · exact absurd (hxk.trans hk') (h2 x hx)
          · exact congrArg some hxv
      · rw [if_neg hk', hm]
        constructor
        · rintro ⟨x, hx, hxk, hxv⟩; exact ⟨x, .inl hx, hxk, hxv⟩
        · rintro ⟨x, hx | rfl, hxk, hxv⟩
          · exact ⟨x, hx, hxk, hxv⟩
          · exact absurd hxk.symm hk'
  · have hj : es[j]? = some e0 := by simpa using h2
    have hjl : j < es.toList.length := (List.getElem?_eq_some_iff.1 h2).1
    have h0m : e0 ∈ es.toList := List.mem_of_getElem? h2
    have hs : m key = some e0.val := (hm key e0.val).2 ⟨e0, h0m, h3, rfl⟩
    have hkeyf : ∀ e', es[j]? = some e' → ({ e' with key := key, val := val } : MapEntry).key = e'.key := fun e' he' => by rw [hj] at he'; cases he'; exact h3.symm
    have hlist : (es.modify j (fun e' => { e' with key := key, val := val })).toList = es.toList.set j { e0 with key := key, val := val } := by rw [Array.toList_modify, modify_eq_set _ _ _ _ h2]
    have who : ∀ x, x ∈ es.toList.set j { e0 with key := key, val := val } ↔ x = { e0 with key := key, val := val } ∨ (x ∈ es.toList ∧ x.key ≠ key) := by
      intro x
      constructor
      · intro hx
        obtain ⟨i, hi, ex⟩ := List.getElem_of_mem hx
        rw [List.getElem_set] at ex
        split at ex
        · exact Or.inl ex.symm
        · rename_i hne
          have hi' : i < es.toList.length := by simpa using hi
          refine Or.inr ⟨ex ▸ List.getElem_mem hi', fun hxk => hne ?_⟩
          have hx' : es.toList[i] = e0 := key_inj hst (List.getElem_mem hi') h0m (by rw [ex, hxk, h3])
          have hnd := ((stamped_iff es clock).1 hst).2.1
          have e1 : (es.toList.map (·.born))[i]'(by simpa using hi') = (es.toList.map (·.born))[j]'(by simpa using hjl) := by
            rw [List.getElem_map, List.getElem_map, hx']
            have : es.toList[j] = e0 := by rw [List.getElem?_eq_getElem hjl] at h2; exact Option.some.inj h2
            rw [this]
          exact ((List.getElem_inj hnd).1 e1).symm
      · rintro (rfl | ⟨hx, hxk⟩)
        · exact List.mem_iff_getElem.2 ⟨j, by simpa using hjl, by simp⟩
        · obtain ⟨i, hi, ex⟩ := List.getElem_of_mem hx
          refine List.mem_iff_getElem.2 ⟨i, by simpa using hi, ?_⟩
          rw [List.getElem_set_ne, ex]
          rintro rfl
          have : es.toList[j] = e0 := by rw [List.getElem?_eq_getElem hjl] at h2; exact Option.some.inj h2
          rw [this] at ex
          exact hxk (by rw [← ex, h3])
    refine ⟨setBlock w b (.map (es.modify j (fun e' => { e' with key := key, val := val })) clock), fun k' => if k' = key then some val else m k', ?_,
      ⟨es.modify j (fun e' => { e' with key := key, val := val }), clock, heap_setBlock_same hb _, stamped_modify hst _ _ (fun _ _ => rfl) (fun e' _ he' => hkeyf e' he'), ?_, ?_, ?_⟩, if_pos rfl, fun k' hk' => if_neg hk', hg _, by simp [setBlock]⟩
    · simp [Instr.mapUpdate, run_underlying ht, MapKept.run_getObj_map hb, K.check w false hkey, h1, hj, h3, K.stays w hkey, MapKept.run_setObj_map _ hb, Result.andThen, setBlock]
    · intro x hx
      rw [hlist] at hx
      rcases (who x).1 hx with rfl | ⟨hx, _⟩
      · exact ⟨kl, hkey⟩
      · exact hks x hx
    · rw [hs]; simp
    · intro k' v
      show (if k' = key then some val else m k') = some v ↔ _
      rw [hlist]
      by_cases hk' : k' = key
      · rw [if_pos hk']
        constructor
        · intro h; cases h; exact ⟨_, (who _).2 (.inl rfl), hk'.symm, rfl⟩
        · rintro ⟨x, hx, hxk, hxv⟩
          rcases (who x).1 hx with rfl | ⟨_, hne⟩
          · exact congrArg some hxv
          · exact absurd (hxk.trans hk') hne
      · rw [if_neg hk', hm]
        constructor
        · rintro ⟨x, hx, hxk, hxv⟩; exact ⟨x, (who x).2 (.inr ⟨hx, by rw [hxk]; exact hk'⟩), hxk, hxv⟩
        · rintro ⟨x, hx, hxk, hxv⟩
          rcases (who x).1 hx with rfl | ⟨hx, _⟩
          · exact absurd hxk.symm hk'
          · exact ⟨x, hx, hxk, hxv⟩

/-- A range over the map is under way: block r is its iterator; left says which keys are still to come, cnt how many. -/
def RangeV (P : Program) (k : TypeId) (w : World) (b r n : Nat) (m : Value → Option Value) (left : Value → Prop) (cnt : Nat) : Prop :=
  ∃ es clock since seen c0, w.heap[b]? = some (.map es clock) ∧ Stamped es clock ∧ (∀ x ∈ es.toList, IsK P k x.key) ∧ es.size = n ∧ (∀ key v, m key = some v ↔ ∃ x ∈ es.toList, x.key = key ∧ x.val = v) ∧
    w.heap[r]? = some (.mapIter (some b) since seen c0) ∧ (∀ x ∈ es.toList, x.born < since) ∧ (leftOf es seen).size = cnt ∧ (∀ x ∈ es.toList, left x.key ↔ seen.contains x.born = false) ∧ since ≤ c0 ∧ since ≤ clock

theorem RangeV.mapV (h : RangeV P k w b r n m left cnt) : MapV P k w b n m := by
  obtain ⟨es, clock, since, seen, c0, h1, h2, h3, h4, h5, _⟩ := h
  exact ⟨es, clock, h1, h2, h3, h4, h5⟩
theorem RangeV.lt (h : RangeV P k w b r n m left cnt) : r < w.heap.size := by
  obtain ⟨es, clock, since, seen, c0, _, _, _, _, _, hr, _⟩ := h
  exact (Array.getElem?_eq_some_iff.1 hr).1
theorem RangeV.kept {row : Option Nat} (h : RangeV P k w b r n m left cnt) (hg : w.grownBy w' row) (hb : some b ≠ row) (hr : some r ≠ row) : RangeV P k w' b r n m left cnt := by
  have h1 := h.mapV.lt
  have h2 := h.lt
  obtain ⟨es, clock, since, seen, c0, e1, e2, e3, e4, e5, e6, rest⟩ := h
  exact ⟨es, clock, since, seen, c0, (hg.block b h1 hb).trans e1, e2, e3, e4, e5, (hg.block r h2 hr).trans e6, rest⟩
theorem RangeV.below (h : RangeV P k w b r n m left cnt) (hb : Below w.heap.size w w') : RangeV P k w' b r n m left cnt := by
  have h1 := h.mapV.lt
  have h2 := h.lt
  obtain ⟨es, clock, since, seen, c0, e1, e2, e3, e4, e5, e6, rest⟩ := h
  exact ⟨es, clock, since, seen, c0, (hb.block b h1).trans e1, e2, e3, e4, e5, (hb.block r h2).trans e6, rest⟩
theorem RangeV.ne (h : RangeV P k w b r n m left cnt) : r ≠ b := by
  obtain ⟨es, clock, since, seen, c0, hb, _, _, _, _, hr, _⟩ := h
  intro e
  rw [e, hb] at hr
  cases hr

/-- 'range m'. -/
theorem MapV.range (h : MapV P k w b n m) (ht : P.underlying t = some (.map k e)) :
    ∃ w', (Instr.range t (.map (some b))).run P w = .ok (.pointer (some ⟨w.heap.size, 0, none⟩)) w' ∧ RangeV P k w' b w.heap.size n m (fun _ => True) n ∧ Below w.heap.size w w' ∧ w'.heap.size = w.heap.size + 1 := by
  have hlt := h.lt
  obtain ⟨es, clock, hb, hst, hk, hn, hm⟩ := h
  refine ⟨_, run_range_map w t k e b es clock ht hb, ⟨es, clock, clock, #[], clock, ((MapKept.heap_alloc w _).2 b hlt).trans hb, hst, hk, hn, hm, (MapKept.heap_alloc w _).1, hst.1, ?_, fun x _ => by simp, Nat.le_refl _, Nat.le_refl _⟩, (Below.refl _ _).alloc (Nat.le_refl _) _, by simp⟩
  simp [leftOf, ← hn]

/-- The step: nothing is left, or one of the keys that are left, whichever. -/
theorem RangeV.next (h : RangeV P k w b r n m left cnt) (ty : TypeId) :
    (cnt = 0 ∧ (∀ key v, m key = some v → ¬ left key) ∧ (Instr.next (.pointer (some ⟨r, 0, none⟩)) false ty).run P w = .ok (.tuple #[.bool false]) w) ∨
    ∃ key v w' cnt', m key = some v ∧ left key ∧ (Instr.next (.pointer (some ⟨r, 0, none⟩)) false ty).run P w = .ok (.tuple #[.bool true, key, v]) w' ∧
      RangeV P k w' b r n m (fun z => left z ∧ z ≠ key) cnt' ∧ cnt' < cnt ∧ w.grownBy w' (some r) ∧ w'.heap.size = w.heap.size ∧ (Instr.entry (.pointer (some ⟨r, 0, none⟩))).run P w' = .ok (.tuple #[key, v]) w' := by
  have hne := h.ne
  obtain ⟨es, clock, since, seen, c0, hb, hst, hks, hn, hm, hr, hold, rfl, hl, hsc, hsk⟩ := h
  have hs3 := (stamped_iff es clock).1 hst
  rcases run_next_at (P := P) w ty r b since c0 seen es clock hr hb hold hsc with ⟨h0, hrun⟩ | ⟨e, he, w1, hal, hrun⟩
  · refine Or.inl ⟨h0, fun key v hkv hlk => ?_, hrun⟩
    obtain ⟨x, hx, rfl, _⟩ := (hm key v).1 hkv
    have h1 := (hl x hx).1 hlk
    rw [all_seen es seen h0 x hx] at h1
    cases h1
  · obtain ⟨hem, hes⟩ := mem_left he
    have hr1 : w1.heap[r]? = some (.mapIter (some b) since seen c0) := by rcases hal with rfl | rfl <;> exact hr
    have hb1 : w1.heap[b]? = some (.map es clock) := by rcases hal with rfl | rfl <;> exact hb
    have hset := heap_set (o' := .mapIter (some b) since (seen.push e.born) clock) hr1
    have hb' : (setBlock w1 r (.mapIter (some b) since (seen.push e.born) clock)).heap[b]? = some (.map es clock) := (hset.2 b (fun e1 => hne e1.symm)).trans hb1
    refine Or.inr ⟨e.key, e.val, _, _, (hm _ _).2 ⟨e, hem, rfl, rfl⟩, (hl e hem).2 hes, hrun,
      ⟨es, clock, since, seen.push e.born, clock, hb', hst, hks, hn, hm, hset.1, hold, rfl, fun x hx => ?_, hsk, hsk⟩, left_shrinks es seen e he, ?_, ?_,
      run_entry_at _ r b since seen es clock e hset.1 hb' hem hs3.2.1⟩
    · rw [contains_push]
      show left x.key ∧ x.key ≠ e.key ↔ _
      rw [hl x hx]
      by_cases hbe : x.born = e.born
      · obtain rfl := born_inj hs3.2.1 hx hem hbe
        simp
      · have : x.key ≠ e.key := fun h => hbe (congrArg MapEntry.born (entry_eq_of_key hs3.2.2 hx hem h))
        simp [hbe, this]
    · rcases hal with rfl | rfl <;> exact ⟨rfl, rfl, rfl, by simp [setBlock], fun i _ hi => hset.2 i (fun e1 => hi (by rw [e1]))⟩
    · rcases hal with rfl | rfl <;> simp [setBlock]

section
variable {ops : Array Oper} {rest : List Oper} {o : Oper} {a : Act} {Q : Exit → Act → World → Prop}
/-- An entry of a literal, at the operation. -/
theorem wpList_insertV (hg : o.guard = none) (x y v : Operand) (t : TypeId) (hop : o.op = Op.insert t x y v) (K : Keyed P k) {e : TypeId} (ht : P.underlying t = some (.map k e)) (hx : a.eval x = .map (some b)) (h : MapV P k w b n m)
    {key val : Value} (hy : a.eval y = key) (hv : a.eval v = val) (hk : IsK P k key)
    (hK : ∀ w' m', MapV P k w' b (if (m key).isSome then n else n + 1) m' → m' key = some val → (∀ key', key' ≠ key → m' key' = m key') → w.grownBy w' (some b) → w'.heap.size = w.heap.size → wpList P ops Q rest (a.put o.dst undef) w') : wpList P ops Q (o :: rest) a w := by
  refine wpList_plain hg fun K' hK' => ?_
  obtain ⟨w', m', hrun, r1, r2, r3, r4, r5⟩ := h.store K ht val hk
  unfold Oper.wp
  simp [execOp, hop, hx, hy, hv, hrun, Result.andThen]
  exact hK' _ _ (hK w' m' r1 r2 r3 r4 r5)
end

end Go.Mp


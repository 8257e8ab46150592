/- Words of states: powers of the half twist and factors; equal states have words that are equal by the relations. No program. -/
import Derived.Test.YtnmklkjlcpgjmaaQTopWordProblem0
import Derived.Test.YtnmklkjlcpgjmaaQTopWordProblem1
import Derived.Test.YtnmklkjlcpgjmaaQTopWordProblem2
import Derived.Test.YtnmklkjlcpgjmaaQTopWordProblem5

namespace Go.Proofs.Ytnmklkjlcpgjmaa
open Go.RowKit Go.Sl

def iota (n : Nat) : List Int := (List.range n).map Int.ofNat
theorem iota_length (n : Nat) : (iota n).length = n := by simp [iota]
theorem nth_iota (n k : Nat) (h : k < n) : nth (iota n) k = k := by rw [nth_lt (by rw [iota_length]; exact h)]; simp [iota]
theorem mem_iota {n : Nat} {x : Int} : x ∈ iota n ↔ 0 ≤ x ∧ x < n := by
  simp only [iota, List.mem_map, List.mem_range]
  constructor
  · rintro ⟨a, h, rfl⟩; simp; omega
  · rintro ⟨h1, h2⟩; exact ⟨x.toNat, by omega, by simp; omega⟩
theorem iota_nodup (n : Nat) : (iota n).Nodup := by
  unfold iota
  rw [List.nodup_iff_pairwise_ne] at *
  rw [List.pairwise_map]
  refine List.Pairwise.imp ?_ List.nodup_range
  intro a b h e
  exact h (Int.ofNat.inj e)
theorem ext_nth {xs ys : List Int} (hl : xs.length = ys.length) (h : ∀ k, k < xs.length → nth xs k = nth ys k) : xs = ys := by
  apply List.ext_getElem hl
  intro j h1 h2
  have := h j h1
  rwa [nth_lt h1, nth_lt h2] at this

def thenL (a b : List Int) : List Int := a.map fun x => nth b x.toNat
theorem thenL_length (a b : List Int) : (thenL a b).length = a.length := by simp [thenL]
theorem nth_thenL (a b : List Int) (k : Nat) (h : k < a.length) : nth (thenL a b) k = nth b (nth a k).toNat := by
  rw [nth_lt (by rw [thenL_length]; exact h)]; simp [thenL, nth_lt h]

/-- A permutation of small degree, as a list. -/
structure IsPerm (xs : List Int) : Prop where
  perm : xs.Perm (iota xs.length)
  small : xs.length ≤ 1000
theorem IsPerm.range {xs : List Int} (h : IsPerm xs) : ∀ x ∈ xs, 0 ≤ x ∧ x < xs.length := fun _ hx => mem_iota.1 (h.perm.mem_iff.1 hx)
theorem IsPerm.nodup {xs : List Int} (h : IsPerm xs) : xs.Nodup := h.perm.nodup_iff.2 (iota_nodup _)
theorem IsPerm.hit {xs : List Int} (h : IsPerm xs) {k : Nat} (hk : k < xs.length) : ∃ j, j < xs.length ∧ nth xs j = k := by
  have : (k : Int) ∈ xs := h.perm.mem_iff.2 (mem_iota.2 ⟨by omega, by omega⟩)
  obtain ⟨j, hj, he⟩ := List.getElem_of_mem this
  exact ⟨j, hj, by rw [nth_lt hj]; exact he⟩
theorem isPerm_iota {n : Nat} (h : n ≤ 1000) : IsPerm (iota n) := ⟨by rw [iota_length], by rw [iota_length]; exact h⟩

theorem thenL_iota (b : List Int) : thenL (iota b.length) b = b := by
  apply ext_nth (by rw [thenL_length, iota_length])
  intro k hk
  rw [thenL_length, iota_length] at hk
  rw [nth_thenL _ _ _ (by rw [iota_length]; exact hk), nth_iota _ _ hk]; simp
theorem iota_thenL {a : List Int} (h : ∀ x ∈ a, 0 ≤ x ∧ x < a.length) : thenL a (iota a.length) = a := by
  apply ext_nth (by rw [thenL_length])
  intro k hk
  rw [thenL_length] at hk
  have := h _ (nth_mem hk)
  rw [nth_thenL _ _ _ hk, nth_iota _ _ (by omega)]; omega
theorem IsPerm.then {a b : List Int} (ha : IsPerm a) (hb : IsPerm b) (hl : a.length = b.length) : IsPerm (thenL a b) := by
  refine ⟨?_, by rw [thenL_length]; exact ha.small⟩
  rw [thenL_length, hl]
  have h1 : (thenL a b).Perm (thenL (iota a.length) b) := ha.perm.map _
  rw [hl, thenL_iota] at h1
  exact h1.trans hb.perm

/-- The first k numbers of a permutation written at their places. -/
def backTo (xs : List Int) (k : Nat) : List Int := (List.range k).foldl (fun acc i => acc.set (nth xs i).toNat i) (List.replicate xs.length 0)
def backL (xs : List Int) : List Int := backTo xs xs.length
theorem backTo_zero (xs : List Int) : backTo xs 0 = List.replicate xs.length 0 := rfl
theorem backTo_succ (xs : List Int) (k : Nat) : backTo xs (k + 1) = (backTo xs k).set (nth xs k).toNat k := by
  simp [backTo, List.range_succ]
theorem backTo_length (xs : List Int) (k : Nat) : (backTo xs k).length = xs.length := by
  induction k with
  | zero => simp [backTo]
  | succ k ih => rw [backTo_succ]; simp [ih]
theorem backL_length (xs : List Int) : (backL xs).length = xs.length := backTo_length _ _
theorem nth_set_same {xs : List Int} {k : Nat} (x : Int) (h : k < xs.length) : nth (xs.set k x) k = x := by
  rw [nth_lt (by simpa using h)]; simp
theorem nth_set_other {xs : List Int} {k j : Nat} (x : Int) (h : k ≠ j) : nth (xs.set k x) j = nth xs j := by
  simp [nth, List.getElem?_set_ne h]
theorem IsPerm.inj {xs : List Int} (h : IsPerm xs) {i j : Nat} (hi : i < xs.length) (hj : j < xs.length) (e : nth xs i = nth xs j) : i = j := by
  rw [nth_lt hi, nth_lt hj] at e
  exact (List.getElem_inj h.nodup).1 e
theorem backTo_hit {xs : List Int} (h : IsPerm xs) (k : Nat) (hk : k ≤ xs.length) : ∀ j, j < k → nth (backTo xs k) (nth xs j).toNat = j := by
  induction k with
  | zero => intro j hj; omega
  | succ k ih =>
    intro j hj
    have hrk := h.range _ (nth_mem (xs := xs) (k := k) (by omega))
    rw [backTo_succ]
    rcases Nat.lt_or_ge j k with h1 | h1
    · have hrj := h.range _ (nth_mem (xs := xs) (k := j) (by omega))
      rw [nth_set_other _ (fun e => by
        have := h.inj (i := k) (j := j) (by omega) (by omega) (by omega)
        omega)]
      exact ih (by omega) j h1
    · have e : j = k := by omega
      subst e
      rw [nth_set_same _ (by rw [backTo_length]; omega)]
theorem then_back {xs : List Int} (h : IsPerm xs) : thenL xs (backL xs) = iota xs.length := by
  apply ext_nth (by rw [thenL_length, iota_length])
  intro k hk
  rw [thenL_length] at hk
  rw [nth_thenL _ _ _ hk, nth_iota _ _ hk]
  exact backTo_hit h _ (Nat.le_refl _) k hk
theorem IsPerm.back {xs : List Int} (h : IsPerm xs) : IsPerm (backL xs) := by
  refine ⟨?_, by rw [backL_length]; exact h.small⟩
  have h1 : (thenL xs (backL xs)).Perm (thenL (iota xs.length) (backL xs)) := h.perm.map _
  rw [then_back h] at h1
  have h2 := thenL_iota (backL xs)
  rw [backL_length] at h2 ⊢
  rw [h2] at h1
  exact h1.symm

/-! ### The maker of permutations -/
end Go.Proofs.Ytnmklkjlcpgjmaa

namespace Go.Proofs.Ytnmklkjlcpgjmaa
open Go.RowKit Go.Sl

/-- One letter onto the stack (its top is the list's head). -/
def psh (s : List Int) (x : Int) : List Int :=
  match s with
  | [] => [x]
  | y :: t => if y = -x then t else x :: y :: t
def act (s xs : List Int) : List Int := xs.foldl psh s
def redL (xs : List Int) : List Int := (act [] xs).reverse
def invL (xs : List Int) : List Int := (xs.map (- ·)).reverse
/-- No letter beside its inverse. -/
def Rd : List Int → Prop
  | [] => True
  | [_] => True
  | y :: z :: t => z ≠ -y ∧ Rd (z :: t)

theorem Rd.tail {y : Int} {t : List Int} (h : Rd (y :: t)) : Rd t := by
  cases t with
  | nil => trivial
  | cons z t => exact h.2
theorem rd_nil : Rd [] := trivial
theorem psh_rd {s : List Int} (h : Rd s) (x : Int) : Rd (psh s x) := by
  cases s with
  | nil => trivial
  | cons y t =>
    rw [psh]
    split
    · exact h.tail
    · rename_i hn; exact ⟨hn, h⟩
theorem psh_psh {s : List Int} (h : Rd s) (x : Int) : psh (psh s x) (-x) = s := by
  cases s with
  | nil => simp [psh]
  | cons y t =>
    by_cases hy : y = -x
    · subst hy
      rw [psh, if_pos rfl]
      cases t with
      | nil => rfl
      | cons z t => rw [psh, if_neg h.1]
    · rw [psh, if_neg hy, psh, if_pos (by omega)]
theorem act_append (s xs ys : List Int) : act s (xs ++ ys) = act (act s xs) ys := List.foldl_append
theorem act_snoc (s xs : List Int) (x : Int) : act s (xs ++ [x]) = psh (act s xs) x := by rw [act_append]; rfl
theorem act_rd {s : List Int} (h : Rd s) (xs : List Int) : Rd (act s xs) := by
  induction xs generalizing s with
  | nil => exact h
  | cons x xs ih => exact ih (psh_rd h x)
/-- A word acts as its reduced word. -/
theorem act_redL {s : List Int} (h : Rd s) (xs : List Int) : act s (redL xs) = act s xs := by
  obtain ⟨n, hn⟩ : ∃ n, xs.length = n := ⟨_, rfl⟩
  induction n generalizing xs with
  | zero => rw [List.length_eq_zero_iff.1 hn]; rfl
  | succ n ih =>
    rcases List.eq_nil_or_concat xs with rfl | ⟨l, x, hxs⟩
    · simp at hn
    · rw [List.concat_eq_append] at hxs
      subst hxs
      have hl : l.length = n := by simpa using hn
      have h1 := ih l hl
      have e : redL (l ++ [x]) = (psh (act [] l) x).reverse := by rw [redL, act_snoc]
      rw [act_snoc, e, ← h1]
      rw [redL] at h1 ⊢
      cases hst : act [] l with
      | nil => simp [psh, act]
      | cons y t =>
        rw [psh]
        split
        · rename_i hy
          rw [List.reverse_cons, act_snoc]
          have h2 := psh_psh (act_rd h t.reverse) y
          rw [show -y = x from by omega] at h2
          rw [h2]
        · rw [List.reverse_cons, act_snoc]
theorem act_invL {s : List Int} (h : Rd s) (xs : List Int) : act (act s xs) (invL xs) = s := by
  induction xs generalizing s with
  | nil => rfl
  | cons x xs ih =>
    have e : invL (x :: xs) = invL xs ++ [-x] := by simp [invL]
    rw [e, act_snoc]
    have := ih (psh_rd h x)
    rw [show act s (x :: xs) = act (psh s x) xs from rfl, this, psh_psh h]
theorem invL_invL (xs : List Int) : invL (invL xs) = xs := by
  simp [invL, List.map_reverse, Function.comp_def]
theorem psh_length (s : List Int) (x : Int) : (psh s x).length ≤ s.length + 1 := by
  cases s with
  | nil => simp [psh]
  | cons y t => rw [psh]; split <;> simp only [List.length_cons] <;> omega
theorem act_length (s xs : List Int) : (act s xs).length ≤ s.length + xs.length := by
  induction xs generalizing s with
  | nil => simp [act]
  | cons x xs ih => have h1 := ih (psh s x); have h2 := psh_length s x; simp only [List.length_cons]; show (act (psh s x) xs).length ≤ _; omega
theorem redL_length (xs : List Int) : (redL xs).length ≤ xs.length := by have := act_length [] xs; simpa [redL] using this
theorem psh_mem {s : List Int} {x y : Int} (h : y ∈ psh s x) : y ∈ s ∨ y = x := by
  cases s with
  | nil => simp [psh] at h; exact .inr h
  | cons z t =>
    rw [psh] at h
    split at h
    · exact .inl (List.mem_cons_of_mem _ h)
    · rcases List.mem_cons.1 h with h | h
      · exact .inr h
      · exact .inl h
theorem act_mem {s xs : List Int} {y : Int} (h : y ∈ act s xs) : y ∈ s ∨ y ∈ xs := by
  induction xs generalizing s with
  | nil => exact .inl h
  | cons x xs ih =>
    rcases ih (s := psh s x) h with h' | h'
    · rcases psh_mem h' with h'' | h''
      · exact .inl h''
      · exact .inr (by simp [h''])
    · exact .inr (List.mem_cons_of_mem _ h')
theorem redL_mem {xs : List Int} {y : Int} (h : y ∈ redL xs) : y ∈ xs := by
  rw [redL, List.mem_reverse] at h
  rcases act_mem h with h' | h'
  · cases h'
  · exact h'

end Go.Proofs.Ytnmklkjlcpgjmaa

namespace Go.Proofs.Ytnmklkjlcpgjmaa
open Go.RowKit Go.Sl

/-- Two neighbours exchanged. -/
def swapAt (l : List Int) (i : Nat) : List Int := (l.set i (nth l (i + 1))).set (i + 1) (nth l i)
theorem swapAt_length (l : List Int) (i : Nat) : (swapAt l i).length = l.length := by simp [swapAt]
theorem nth_map (f : Int → Int) (l : List Int) (i : Nat) (h : i < l.length) : nth (l.map f) i = f (nth l i) := by
  rw [nth_lt (by simpa using h), nth_lt h, List.getElem_map]
theorem swapAt_map (f : Int → Int) (l : List Int) (i : Nat) (h : i + 1 < l.length) : swapAt (l.map f) i = (swapAt l i).map f := by
  unfold swapAt
  rw [nth_map f l (i + 1) h, nth_map f l i (by omega), List.map_set, List.map_set]
theorem swapAt_cons (a : Int) (l : List Int) (i : Nat) : swapAt (a :: l) (i + 1) = a :: swapAt l i := by simp [swapAt, nth]
theorem swapAt_perm (l : List Int) : ∀ i, i + 1 < l.length → (swapAt l i).Perm l := by
  induction l with
  | nil => intro i h; simp at h
  | cons a l ih =>
    intro i h
    cases i with
    | zero =>
      cases l with
      | nil => simp at h
      | cons b l => simp only [swapAt, nth]; simp; exact List.Perm.swap _ _ _
    | succ i =>
      rw [swapAt_cons]
      exact (ih i (by simpa using h)).cons a
theorem nth_swapAt (l : List Int) (i j : Nat) (h : i + 1 < l.length) : nth (swapAt l i) j = if j = i + 1 then nth l i else if j = i then nth l (i + 1) else nth l j := by
  unfold swapAt
  by_cases h1 : j = i + 1
  · subst h1; rw [if_pos rfl, nth_set_same _ (by simpa using h)]
  · rw [if_neg h1, nth_set_other _ (by omega)]
    by_cases h2 : j = i
    · subst h2; rw [if_pos rfl, nth_set_same _ (by omega)]
    · rw [if_neg h2, nth_set_other _ (by omega)]
end Go.Proofs.Ytnmklkjlcpgjmaa

namespace Go.Proofs.Ytnmklkjlcpgjmaa
open Go.RowKit Go.Sl

def fact : Nat → Nat
  | 0 => 1
  | n + 1 => (n + 1) * fact n
/-- How many of the numbers are smaller. -/
def less (xs : List Int) (x : Int) : Nat := (xs.filter fun y => decide (y < x)).length
/-- Strictly ascending. -/
def Asc (l : List Int) : Prop := l.Pairwise (· < ·)
theorem asc_iota (n : Nat) : Asc (iota n) := by
  unfold Asc iota
  rw [List.pairwise_map]
  refine List.Pairwise.imp ?_ List.pairwise_lt_range
  intro a b h
  simpa using h
theorem Asc.erase {l : List Int} (h : Asc l) (i : Nat) : Asc (l.eraseIdx i) := List.Pairwise.sublist (List.eraseIdx_sublist l i) h
theorem Asc.lt {l : List Int} (h : Asc l) {i j : Nat} (hij : i < j) (hj : j < l.length) : nth l i < nth l j := by
  rw [nth_lt hj, nth_lt (by omega)]
  exact List.pairwise_iff_getElem.1 h i j (by omega) hj hij
theorem less_perm {a b : List Int} (h : a.Perm b) (x : Int) : less a x = less b x := (h.filter _).length_eq
end Go.Proofs.Ytnmklkjlcpgjmaa

namespace Go.Proofs.Ytnmklkjlcpgjmaa
open Go.RowKit Go.Sl

/-- The values i and i + 1 exchanged. -/
def swV (i : Nat) (x : Int) : Int := if x = i then (i : Int) + 1 else if x = (i : Int) + 1 then i else x
def swapV (a : List Int) (i : Nat) : List Int := a.map (swV i)
theorem swapV_length (a : List Int) (i : Nat) : (swapV a i).length = a.length := by simp [swapV]
theorem swV_swV (i : Nat) (x : Int) : swV i (swV i x) = x := by unfold swV; grind
theorem swapV_swapV (a : List Int) (i : Nat) : swapV (swapV a i) i = a := by
  unfold swapV
  have h : ∀ x ∈ a, (swV i ∘ swV i) x = x := fun x _ => swV_swV i x
  rw [List.map_map, List.map_congr_left h, List.map_id']
theorem nth_swapV (a : List Int) (i q : Nat) (h : q < a.length) : nth (swapV a i) q = swV i (nth a q) := nth_map _ a q h
/-- The place exchanged. -/
def swN (i q : Nat) : Nat := if q = i then i + 1 else if q = i + 1 then i else q
theorem swN_lt {i q n : Nat} (hi : i + 1 < n) (hq : q < n) : swN i q < n := by unfold swN; grind
theorem nth_swapAt' (l : List Int) (i j : Nat) (h : i + 1 < l.length) : nth (swapAt l i) j = nth l (swN i j) := by
  rw [nth_swapAt l i j h]
  unfold swN
  by_cases h1 : j = i
  · subst h1; rw [if_neg (by omega), if_pos rfl, if_pos rfl]
  · by_cases h2 : j = i + 1
    · rw [if_pos h2, if_neg h1, if_pos h2]
    · rw [if_neg h2, if_neg h1, if_neg h1, if_neg h2]
theorem swapAt_swapAt (l : List Int) (i : Nat) (h : i + 1 < l.length) : swapAt (swapAt l i) i = l := by
  refine ext_nth (by simp [swapAt_length]) fun k _ => ?_
  rw [nth_swapAt' _ _ _ (by rw [swapAt_length]; exact h), nth_swapAt' _ _ _ h]
  congr 1
  unfold swN; grind

/-- A permutation of degree n. -/
structure Pn (n : Nat) (a : List Int) : Prop where
  perm : IsPerm a
  len : a.length = n
theorem Pn.range {n : Nat} {a : List Int} (h : Pn n a) {q : Nat} (hq : q < n) : 0 ≤ nth a q ∧ nth a q < n := by
  have := h.perm.range _ (nth_mem (xs := a) (k := q) (by rw [h.len]; exact hq))
  rw [h.len] at this; exact this
theorem pn_iota {n : Nat} (h : n ≤ 1000) : Pn n (iota n) := ⟨isPerm_iota h, iota_length n⟩
theorem Pn.back {n : Nat} {a : List Int} (h : Pn n a) : Pn n (backL a) := ⟨h.perm.back, by rw [backL_length, h.len]⟩
theorem Pn.then {n : Nat} {a b : List Int} (h : Pn n a) (k : Pn n b) : Pn n (thenL a b) := ⟨h.perm.then k.perm (by rw [h.len, k.len]), by rw [thenL_length, h.len]⟩
theorem swapV_iota {n i : Nat} (h : i + 1 < n) : swapV (iota n) i = swapAt (iota n) i := by
  refine ext_nth (by rw [swapV_length, swapAt_length]) fun k hk => ?_
  rw [swapV_length, iota_length] at hk
  rw [nth_swapV _ _ _ (by rw [iota_length]; exact hk), nth_swapAt' _ _ _ (by rw [iota_length]; exact h), nth_iota _ _ hk, nth_iota _ _ (swN_lt h hk)]
  unfold swV swN; grind
theorem Pn.swapAt {n : Nat} {a : List Int} (h : Pn n a) {i : Nat} (hi : i + 1 < n) : Pn n (Go.Proofs.Ytnmklkjlcpgjmaa.swapAt a i) := by
  have hl := swapAt_length a i
  refine ⟨⟨?_, by rw [hl]; exact h.perm.small⟩, by rw [hl, h.len]⟩
  rw [hl]
  exact (swapAt_perm a i (by rw [h.len]; exact hi)).trans h.perm.perm
theorem Pn.swapV {n : Nat} {a : List Int} (h : Pn n a) {i : Nat} (hi : i + 1 < n) : Pn n (Go.Proofs.Ytnmklkjlcpgjmaa.swapV a i) := by
  have hl := swapV_length a i
  refine ⟨⟨?_, by rw [hl]; exact h.perm.small⟩, by rw [hl, h.len]⟩
  rw [hl, h.len]
  have h1 : (Go.Proofs.Ytnmklkjlcpgjmaa.swapV a i).Perm (Go.Proofs.Ytnmklkjlcpgjmaa.swapV (iota n) i) := by have := h.perm.perm; rw [h.len] at this; exact this.map _
  rw [swapV_iota hi] at h1
  exact h1.trans (swapAt_perm _ i (by rw [iota_length]; exact hi))

/-- Where a value stands. -/
theorem back_at {n : Nat} {a : List Int} (h : Pn n a) {q : Nat} (hq : q < n) : nth (backL a) (nth a q).toNat = q := backTo_hit h.perm _ (Nat.le_refl _) q (by rw [h.len]; exact hq)
theorem hit {n : Nat} {a : List Int} (h : Pn n a) {x : Nat} (hx : x < n) : ∃ q, q < n ∧ nth a q = x ∧ nth (backL a) x = q := by
  obtain ⟨q, hq, e⟩ := h.perm.hit (k := x) (by rw [h.len]; exact hx)
  rw [h.len] at hq
  have := back_at h hq
  rw [e, Int.toNat_natCast] at this
  exact ⟨q, hq, e, this⟩
theorem back_swapV {n : Nat} {a : List Int} (h : Pn n a) {i : Nat} (hi : i + 1 < n) : backL (swapV a i) = swapAt (backL a) i := by
  refine ext_nth (by rw [backL_length, swapV_length, swapAt_length, backL_length]) fun x hx => ?_
  rw [backL_length, swapV_length, h.len] at hx
  obtain ⟨q, hq, e, e2⟩ := hit (h.swapV hi) hx
  rw [nth_swapV _ _ _ (by rw [h.len]; exact hq)] at e
  rw [e2, nth_swapAt' _ _ _ (by rw [backL_length, h.len]; exact hi)]
  have e3 : nth a q = ((swN i x : Nat) : Int) := by
    have := congrArg (swV i) e
    rw [swV_swV] at this
    rw [this]
    unfold swV swN; grind
  have := back_at h hq
  rw [e3, Int.toNat_natCast] at this
  exact this.symm
theorem back_back {n : Nat} {a : List Int} (h : Pn n a) : backL (backL a) = a := by
  refine ext_nth (by simp [backL_length]) fun x hx => ?_
  rw [backL_length, backL_length, h.len] at hx
  obtain ⟨q, hq, e, e2⟩ := hit h.back hx
  rw [e2]
  have hr := h.range hx
  obtain ⟨y, hy⟩ : ∃ y : Nat, nth a x = y := ⟨(nth a x).toNat, by omega⟩
  have h3 := back_at h hx
  rw [hy, Int.toNat_natCast] at h3
  have : q = y := by
    have hyn : y < n := by omega
    exact h.back.perm.inj (by rw [backL_length, h.len]; exact hq) (by rw [backL_length, h.len]; exact hyn) (by rw [e, h3])
  rw [hy, this]
theorem back_swapAt {n : Nat} {b : List Int} (h : Pn n b) {i : Nat} (hi : i + 1 < n) : backL (swapAt b i) = swapV (backL b) i := by
  have h1 := back_swapV h.back hi
  rw [back_back h] at h1
  rw [← h1, back_back (h.back.swapV hi)]
theorem swap_comm {n : Nat} {a : List Int} (h : Pn n a) {i : Nat} (hi : i + 1 < n) (j : Nat) : swapAt (swapV a j) i = swapV (swapAt a i) j := swapAt_map (swV j) a i (by rw [h.len]; exact hi)

/-- The crossing i can be taken away at the beginning; it can be added at the end. -/
def dn (b : List Int) (i : Nat) : Prop := nth b (i + 1) < nth b i
def up (a : List Int) (i : Nat) : Prop := nth (backL a) i < nth (backL a) (i + 1)
theorem dn_or {n : Nat} {b : List Int} (h : Pn n b) {i : Nat} (hi : i + 1 < n) : dn b i ∨ nth b i < nth b (i + 1) := by
  unfold dn
  rcases Int.lt_trichotomy (nth b i) (nth b (i + 1)) with h1 | h1 | h1
  · exact .inr h1
  · have := h.perm.inj (by rw [h.len]; omega) (by rw [h.len]; exact hi) h1; omega
  · exact .inl h1

/-! Inversions. -/
def inv : List Int → Nat
  | [] => 0
  | x :: t => less t x + inv t
theorem less_cons (t : List Int) (x y : Int) : less (y :: t) x = (if y < x then 1 else 0) + less t x := by
  unfold less
  rw [List.filter_cons]
  by_cases h : y < x
  · simp [h]; omega
  · simp [h]
theorem inv_swapAt (l : List Int) : ∀ i, i + 1 < l.length → nth l (i + 1) < nth l i → inv (swapAt l i) + 1 = inv l := by
  induction l with
  | nil => intro i h; simp at h
  | cons a l ih =>
    intro i h hd
    cases i with
    | zero =>
      cases l with
      | nil => simp at h
      | cons b t =>
        have hb : b < a := by simpa [nth] using hd
        have e : swapAt (a :: b :: t) 0 = b :: a :: t := by simp [swapAt, nth]
        rw [e, inv, inv, inv, inv, less_cons, less_cons, if_pos hb, if_neg (by omega)]
        omega
    | succ i =>
      have hi : i + 1 < l.length := by simpa using h
      rw [swapAt_cons, inv, inv, less_perm (swapAt_perm l i hi) a]
      have := ih i hi (by simpa [nth] using hd)
      omega
theorem inv_dn {n : Nat} {b : List Int} (h : Pn n b) {i : Nat} (hi : i + 1 < n) (hd : dn b i) : inv (swapAt b i) + 1 = inv b := inv_swapAt b i (by rw [h.len]; exact hi) hd

/-- The values i and i + 1 are not both there: their exchange turns no order. -/
theorem less_swV {i : Nat} (t : List Int) (x : Int) (h : ∀ y ∈ t, (swV i y < swV i x ↔ y < x)) : less (t.map (swV i)) (swV i x) = less t x := by
  induction t with
  | nil => rfl
  | cons y t ih =>
    rw [List.map_cons, less_cons, less_cons, ih (fun z hz => h z (by simp [hz]))]
    have := h y (by simp)
    by_cases hy : y < x
    · rw [if_pos hy, if_pos (this.2 hy)]
    · rw [if_neg hy, if_neg (fun e => hy (this.1 e))]
theorem swV_lt {i : Nat} {x y : Int} (h : ¬ (x = i ∧ y = (i : Int) + 1)) (k : ¬ (x = (i : Int) + 1 ∧ y = i)) : swV i y < swV i x ↔ y < x := by unfold swV; grind
theorem inv_none {i : Nat} (t : List Int) : ((i : Int) ∉ t ∨ (i : Int) + 1 ∉ t) → inv (t.map (swV i)) = inv t := by
  induction t with
  | nil => intro _; rfl
  | cons x t ih =>
    intro h
    have h' : (i : Int) ∉ t ∨ (i : Int) + 1 ∉ t := by
      rcases h with h | h
      · exact .inl (fun m => h (by simp [m]))
      · exact .inr (fun m => h (by simp [m]))
    rw [List.map_cons, inv, inv, ih h', less_swV]
    intro y hy
    refine swV_lt (fun e => ?_) (fun e => ?_)
    · rcases h with h | h
      · exact h (by simp [e.1])
      · exact h (by rw [← e.2]; simp [hy])
    · rcases h with h | h
      · exact h (by rw [← e.2]; simp [hy])
      · exact h (by simp [e.1])
theorem less_one {i : Nat} (v : List Int) : v.Nodup → (i : Int) ∉ v → (i : Int) + 1 ∈ v → less (v.map (swV i)) ((i : Int) + 1) = less v i + 1 := by
  induction v with
  | nil => intro _ _ h; cases h
  | cons y v ih =>
    intro hn hi hm
    have hn' := List.nodup_cons.1 hn
    have hiv : (i : Int) ∉ v := fun h => hi (by simp [h])
    have hyi : y ≠ i := fun h => hi (by simp [h])
    rw [List.map_cons, less_cons, less_cons]
    by_cases e : y = (i : Int) + 1
    · have hnv : (i : Int) + 1 ∉ v := by rw [← e]; exact hn'.1
      have h1 : less (v.map (swV i)) ((i : Int) + 1) = less v i := by
        have h2 : v.map (swV i) = v := by
          have : ∀ z ∈ v, swV i z = z := fun z hz => by
            have z1 : z ≠ i := fun e => hiv (e ▸ hz)
            have z2 : z ≠ (i : Int) + 1 := fun e => hnv (e ▸ hz)
            unfold swV; rw [if_neg z1, if_neg z2]
          rw [List.map_congr_left this, List.map_id']
        rw [h2]
        have : ∀ (l : List Int), (i : Int) ∉ l → less l ((i : Int) + 1) = less l i := by
          intro l
          induction l with
          | nil => intro _; rfl
          | cons z l ihl =>
            intro hz
            have z1 : z ≠ i := fun e => hz (by simp [e])
            rw [less_cons, less_cons, ihl (fun h => hz (by simp [h]))]
            by_cases hl : z < i
            · rw [if_pos hl, if_pos (by omega)]
            · rw [if_neg hl, if_neg (by omega)]
        exact this v hiv
      rw [h1, e, if_neg (by omega : ¬ (i : Int) + 1 < i)]
      have : swV i ((i : Int) + 1) = i := by unfold swV; rw [if_neg (by omega), if_pos rfl]
      rw [this, if_pos (by omega)]; omega
    · have hmv : (i : Int) + 1 ∈ v := by
        rcases List.mem_cons.1 hm with h | h
        · exact absurd h.symm e
        · exact h
      rw [ih hn'.2 hiv hmv]
      have : swV i y = y := by unfold swV; rw [if_neg hyi, if_neg e]
      rw [this]
      by_cases hl : y < i
      · rw [if_pos hl, if_pos (by omega)]; omega
      · rw [if_neg hl, if_neg (by omega)]; omega
theorem inv_before {i : Nat} (u v : List Int) : (u ++ (i : Int) :: v).Nodup → (i : Int) + 1 ∈ v → inv ((u ++ (i : Int) :: v).map (swV i)) = inv (u ++ (i : Int) :: v) + 1 := by
  induction u with
  | nil =>
    intro hn hm
    have hn' := List.nodup_cons.1 hn
    rw [List.nil_append, List.map_cons, inv, inv, inv_none v (.inl hn'.1)]
    have : swV i (i : Int) = (i : Int) + 1 := by unfold swV; rw [if_pos rfl]
    rw [this, less_one v hn'.2 hn'.1 hm]; omega
  | cons x u ih =>
    intro hn hm
    rw [List.cons_append] at hn ⊢
    have hn' := List.nodup_cons.1 hn
    have hx1 : x ≠ i := fun e => hn'.1 (by simp [e])
    have hx2 : x ≠ (i : Int) + 1 := fun e => hn'.1 (by rw [e]; simp [hm])
    rw [List.map_cons, inv, inv, ih hn'.2 hm, less_swV]
    · omega
    · intro y _
      exact swV_lt (fun e => hx1 e.1) (fun e => hx2 e.1)
theorem inv_up {n : Nat} {a : List Int} (h : Pn n a) {i : Nat} (hi : i + 1 < n) (hu : up a i) : inv (swapV a i) = inv a + 1 := by
  obtain ⟨p, hp, e1, e2⟩ := hit h (x := i) (by omega)
  obtain ⟨q, hq, e3, e4⟩ := hit h (x := i + 1) hi
  unfold up at hu
  rw [e2, e4] at hu
  have hpq : p < q := by omega
  have hpl : p < a.length := by rw [h.len]; exact hp
  have hd : a = a.take p ++ (i : Int) :: a.drop (p + 1) := by
    conv => lhs; rw [← List.take_append_drop p a, List.drop_eq_getElem_cons hpl, ← nth_lt hpl, e1]
  have hm : (i : Int) + 1 ∈ a.drop (p + 1) := by
    rw [show (i : Int) + 1 = ((i + 1 : Nat) : Int) by omega, ← e3, nth_lt (by rw [h.len]; exact hq)]
    rw [List.mem_iff_getElem]
    exact ⟨q - (p + 1), by rw [List.length_drop, h.len]; omega, by rw [List.getElem_drop]; congr 1; omega⟩
  have hn := h.perm.nodup
  unfold swapV
  rw [hd] at hn ⊢
  exact inv_before _ _ hn hm
theorem up_or {n : Nat} {a : List Int} (h : Pn n a) {i : Nat} (hi : i + 1 < n) : up a i ∨ dn (backL a) i := by
  rcases dn_or h.back hi with h1 | h1
  · exact .inr h1
  · exact .inl h1
theorem up_swapV {n : Nat} {a : List Int} (h : Pn n a) {i : Nat} (hi : i + 1 < n) (hd : dn (backL a) i) : up (swapV a i) i := by
  unfold up
  have hl : i + 1 < (backL a).length := by rw [backL_length, h.len]; exact hi
  rw [back_swapV h hi, nth_swapAt' _ _ _ hl, nth_swapAt' _ _ _ hl]
  unfold swN; unfold dn at hd
  simpa using hd
theorem inv_down {n : Nat} {a : List Int} (h : Pn n a) {i : Nat} (hi : i + 1 < n) (hd : dn (backL a) i) : inv (swapV a i) + 1 = inv a := by
  have := inv_up (h.swapV hi) hi (up_swapV h hi hd)
  rw [swapV_swapV] at this
  exact this.symm

/-- Without inversions: the identity. -/
theorem iota_of {n : Nat} {a : List Int} (h : Pn n a) (hu : ∀ i, i + 1 < n → up a i) : a = iota n := by
  have hc : ∀ i, i < n → nth (backL a) i = i := by
    have hr := fun i (hi : i < n) => h.back.range hi
    have hlo : ∀ i, i < n → (i : Int) ≤ nth (backL a) i := by
      intro i
      induction i with
      | zero => intro hi; exact (hr 0 hi).1
      | succ i ih =>
        intro hi
        have h1 := ih (by omega)
        have h2 : nth (backL a) i < nth (backL a) (i + 1) := hu i hi
        omega
    have hhi : ∀ k i, i + k + 1 = n → nth (backL a) i ≤ (i : Int) := by
      intro k
      induction k with
      | zero => intro i hi; have := (hr i (by omega)).2; omega
      | succ k ih =>
        intro i hi
        have h1 := ih (i + 1) (by omega)
        have h2 : nth (backL a) i < nth (backL a) (i + 1) := hu i (by omega)
        omega
    intro i hi
    have h1 := hlo i hi
    have h2 := hhi (n - i - 1) i (by omega)
    omega
  refine ext_nth (by rw [h.len, iota_length]) fun q hq => ?_
  rw [h.len] at hq
  have hr := h.range hq
  have h1 := back_at h hq
  rw [hc _ (by omega)] at h1
  rw [nth_iota _ _ hq]; omega
/-- Every permutation is made from the identity by adding crossings. -/
theorem permInd {n : Nat} (_hn : n ≤ 1000) {P : List Int → Prop} (h0 : P (iota n)) (h1 : ∀ f j, Pn n f → j + 1 < n → up f j → P f → P (swapV f j)) : ∀ f, Pn n f → P f := by
  have : ∀ m f, inv f ≤ m → Pn n f → P f := by
    intro m
    induction m with
    | zero =>
      intro f hf hp
      have : ∀ i, i + 1 < n → up f i := fun i hi => by
        rcases up_or hp hi with h | h
        · exact h
        · have := inv_down hp hi h; omega
      rw [iota_of hp this]; exact h0
    | succ m ih =>
      intro f hf hp
      by_cases hall : ∀ i, i + 1 < n → up f i
      · rw [iota_of hp hall]; exact h0
      · obtain ⟨i, hi⟩ := Classical.not_forall.1 hall
        obtain ⟨hi, hu⟩ := Classical.not_imp.1 hi
        have hd := (up_or hp hi).resolve_left hu
        have h2 := inv_down hp hi hd
        have h3 := h1 (swapV f i) i (hp.swapV hi) hi (up_swapV hp hi hd) (ih _ (by omega) (hp.swapV hi))
        rwa [swapV_swapV] at h3
  exact fun f hf => this _ f (Nat.le_refl _) hf

end Go.Proofs.Ytnmklkjlcpgjmaa

namespace Go.Proofs.Ytnmklkjlcpgjmaa
open Go.RowKit Go.Sl

/-- A crossing of a factor is moved to the end of the factor before it. -/
inductive Step (n : Nat) : List (List Int) → List (List Int) → Prop
  | here {a b : List Int} {i : Nat} (post : List (List Int)) (hi : i + 1 < n) (hu : up a i) (hd : dn b i) : Step n (a :: b :: post) (swapV a i :: swapAt b i :: post)
  | next (x : List Int) {F G : List (List Int)} (h : Step n F G) : Step n (x :: F) (x :: G)
inductive Reach (n : Nat) : List (List Int) → List (List Int) → Prop
  | refl (F : List (List Int)) : Reach n F F
  | head {F G H : List (List Int)} (h : Step n F G) (k : Reach n G H) : Reach n F H
def Good (n : Nat) (F : List (List Int)) : Prop := ∀ a ∈ F, Pn n a
def Tight (n : Nat) (F : List (List Int)) : Prop := ∀ G, ¬ Step n F G

theorem Good.cons {n : Nat} {a : List Int} {F : List (List Int)} (h : Pn n a) (k : Good n F) : Good n (a :: F) := fun x hx => by
  rcases List.mem_cons.1 hx with rfl | hx
  · exact h
  · exact k x hx
theorem Good.hd {n : Nat} {a : List Int} {F : List (List Int)} (h : Good n (a :: F)) : Pn n a := h a (by simp)
theorem Good.tl {n : Nat} {a : List Int} {F : List (List Int)} (h : Good n (a :: F)) : Good n F := fun x hx => h x (by simp [hx])
theorem Good.app {n : Nat} {F G : List (List Int)} (h : Good n F) (k : Good n G) : Good n (F ++ G) := fun x hx => (List.mem_append.1 hx).elim (h x) (k x)
theorem good_nil (n : Nat) : Good n [] := fun _ h => by cases h
theorem Step.good {n : Nat} {F G : List (List Int)} (h : Step n F G) : Good n F → Good n G := by
  induction h with
  | here post hi hu hd => exact fun g => (g.hd.swapV hi).1 |> fun _ => Good.cons (g.hd.swapV hi) (Good.cons (g.tl.hd.swapAt hi) g.tl.tl)
  | next x h ih => exact fun g => Good.cons g.hd (ih g.tl)
theorem Step.len {n : Nat} {F G : List (List Int)} (h : Step n F G) : G.length = F.length := by
  induction h with
  | here => rfl
  | next x h ih => simp [ih]
def tot : List (List Int) → Nat
  | [] => 0
  | a :: F => inv a + tot F
def mu : List (List Int) → Nat
  | [] => 0
  | _ :: F => mu F + tot F
theorem Step.tot {n : Nat} {F G : List (List Int)} (h : Step n F G) : Good n F → Go.Proofs.Ytnmklkjlcpgjmaa.tot G = Go.Proofs.Ytnmklkjlcpgjmaa.tot F := by
  induction h with
  | here post hi hu hd =>
    intro g
    have h1 := inv_up g.hd hi hu
    have h2 := inv_dn g.tl.hd hi hd
    simp only [Go.Proofs.Ytnmklkjlcpgjmaa.tot]; omega
  | next x h ih => intro g; simp only [Go.Proofs.Ytnmklkjlcpgjmaa.tot, ih g.tl]
theorem Step.mu {n : Nat} {F G : List (List Int)} (h : Step n F G) : Good n F → Go.Proofs.Ytnmklkjlcpgjmaa.mu G + 1 = Go.Proofs.Ytnmklkjlcpgjmaa.mu F := by
  induction h with
  | here post hi hu hd =>
    intro g
    have h2 := inv_dn g.tl.hd hi hd
    simp only [Go.Proofs.Ytnmklkjlcpgjmaa.mu, Go.Proofs.Ytnmklkjlcpgjmaa.tot]; omega
  | next x h ih =>
    intro g
    have h1 := ih g.tl
    have h2 := h.tot g.tl
    simp only [Go.Proofs.Ytnmklkjlcpgjmaa.mu]; omega
theorem Reach.trans {n : Nat} {F G H : List (List Int)} (h : Reach n F G) (k : Reach n G H) : Reach n F H := by
  induction h with
  | refl => exact k
  | head h _ ih => exact .head h (ih k)
theorem Reach.one {n : Nat} {F G : List (List Int)} (h : Step n F G) : Reach n F G := .head h (.refl _)
theorem Reach.good {n : Nat} {F G : List (List Int)} (h : Reach n F G) : Good n F → Good n G := by
  induction h with
  | refl => exact id
  | head h _ ih => exact fun g => ih (h.good g)
theorem Reach.len {n : Nat} {F G : List (List Int)} (h : Reach n F G) : G.length = F.length := by
  induction h with
  | refl => rfl
  | head h _ ih => rw [ih, h.len]
theorem Reach.tot {n : Nat} {F G : List (List Int)} (h : Reach n F G) : Good n F → Go.Proofs.Ytnmklkjlcpgjmaa.tot G = Go.Proofs.Ytnmklkjlcpgjmaa.tot F := by
  induction h with
  | refl => exact fun _ => rfl
  | head h _ ih => exact fun g => (ih (h.good g)).trans (h.tot g)
theorem Reach.cons {n : Nat} (x : List Int) {F G : List (List Int)} (h : Reach n F G) : Reach n (x :: F) (x :: G) := by
  induction h with
  | refl => exact .refl _
  | head h _ ih => exact .head (.next x h) ih
theorem Reach.pre {n : Nat} (P : List (List Int)) {F G : List (List Int)} (h : Reach n F G) : Reach n (P ++ F) (P ++ G) := by
  induction P with
  | nil => exact h
  | cons x P ih => exact ih.cons x
theorem Step.post {n : Nat} {F G : List (List Int)} (h : Step n F G) (Q : List (List Int)) : Step n (F ++ Q) (G ++ Q) := by
  induction h with
  | here post hi hu hd => exact .here (post ++ Q) hi hu hd
  | next x h ih => exact .next x ih
theorem Reach.post {n : Nat} {F G : List (List Int)} (h : Reach n F G) (Q : List (List Int)) : Reach n (F ++ Q) (G ++ Q) := by
  induction h with
  | refl => exact .refl _
  | head h _ ih => exact .head (h.post Q) ih
theorem exists_tight {n : Nat} : ∀ m F, mu F ≤ m → Good n F → ∃ T, Reach n F T ∧ Tight n T := by
  intro m
  induction m with
  | zero =>
    intro F h g
    exact ⟨F, .refl _, fun G hs => by have := hs.mu g; omega⟩
  | succ m ih =>
    intro F h g
    by_cases ht : Tight n F
    · exact ⟨F, .refl _, ht⟩
    · obtain ⟨G, hG⟩ := Classical.not_forall.1 ht
      have hs := Classical.not_not.1 hG
      obtain ⟨T, h1, h2⟩ := ih G (by have := hs.mu g; omega) (hs.good g)
      exact ⟨T, .head hs h1, h2⟩

/-! Local confluence. -/
section
variable {n : Nat} {a b d : List Int} {i j : Nat}
theorem swapV_far (h : i + 1 < j ∨ j + 1 < i) : swapV (swapV a i) j = swapV (swapV a j) i := by
  unfold swapV
  rw [List.map_map, List.map_map]
  refine List.map_congr_left fun x _ => ?_
  show swV j (swV i x) = swV i (swV j x)
  unfold swV; grind
theorem swapAt_far (hb : Pn n b) (hi : i + 1 < n) (hj : j + 1 < n) (h : i + 1 < j ∨ j + 1 < i) : swapAt (swapAt b i) j = swapAt (swapAt b j) i := by
  refine ext_nth (by simp [swapAt_length]) fun q _ => ?_
  rw [nth_swapAt' _ _ _ (by rw [swapAt_length, hb.len]; exact hj), nth_swapAt' _ _ _ (by rw [hb.len]; exact hi), nth_swapAt' _ _ _ (by rw [swapAt_length, hb.len]; exact hi), nth_swapAt' _ _ _ (by rw [hb.len]; exact hj)]
  congr 1
  unfold swN; grind
theorem nsw (hb : Pn n b) (hi : i + 1 < n) (q : Nat) : nth (swapAt b i) q = nth b (swN i q) := nth_swapAt' b i q (by rw [hb.len]; exact hi)
theorem dn_far (hb : Pn n b) (hi : i + 1 < n) (h : i + 1 < j ∨ j + 1 < i) : dn (swapAt b i) j ↔ dn b j := by
  unfold dn
  rw [nsw hb hi, nsw hb hi]
  have e1 : swN i j = j := by unfold swN; grind
  have e2 : swN i (j + 1) = j + 1 := by unfold swN; grind
  rw [e1, e2]
theorem up_far (ha : Pn n a) (hi : i + 1 < n) (h : i + 1 < j ∨ j + 1 < i) : up (swapV a i) j ↔ up a j := by
  unfold up
  rw [back_swapV ha hi, nsw ha.back hi, nsw ha.back hi]
  have e1 : swN i j = j := by unfold swN; grind
  have e2 : swN i (j + 1) = j + 1 := by unfold swN; grind
  rw [e1, e2]
theorem swapV_braid : swapV (swapV (swapV a i) (i + 1)) i = swapV (swapV (swapV a (i + 1)) i) (i + 1) := by
  unfold swapV
  rw [List.map_map, List.map_map, List.map_map, List.map_map]
  refine List.map_congr_left fun x _ => ?_
  show swV i (swV (i + 1) (swV i x)) = swV (i + 1) (swV i (swV (i + 1) x))
  unfold swV; grind
theorem swapAt_braid (hb : Pn n b) (hj : i + 1 + 1 < n) : swapAt (swapAt (swapAt b i) (i + 1)) i = swapAt (swapAt (swapAt b (i + 1)) i) (i + 1) := by
  have hi : i + 1 < n := by omega
  refine ext_nth (by simp [swapAt_length]) fun q _ => ?_
  rw [nsw ((hb.swapAt hi).swapAt hj) hi, nsw (hb.swapAt hi) hj, nsw hb hi, nsw ((hb.swapAt hj).swapAt hi) hj, nsw (hb.swapAt hj) hi, nsw hb hj]
  congr 1
  unfold swN; grind
/-- Two neighbouring crossings: what else can be moved behind the first. -/
theorem dn_next (hb : Pn n b) (hj : i + 1 + 1 < n) (h1 : dn b i) (h2 : dn b (i + 1)) : dn (swapAt b i) (i + 1) ∧ dn (swapAt (swapAt b i) (i + 1)) i ∧ dn (swapAt b (i + 1)) i ∧ dn (swapAt (swapAt b (i + 1)) i) (i + 1) := by
  have hi : i + 1 < n := by omega
  unfold dn at *
  rw [nsw hb hi, nsw hb hi, nsw (hb.swapAt hi) hj, nsw (hb.swapAt hi) hj, nsw hb hi, nsw hb hi, nsw hb hj, nsw hb hj, nsw (hb.swapAt hj) hi, nsw (hb.swapAt hj) hi, nsw hb hj, nsw hb hj]
  have e1 : swN i (i + 1) = i := by unfold swN; grind
  have e2 : swN i (i + 1 + 1) = i + 1 + 1 := by unfold swN; grind
  have e3 : swN (i + 1) i = i := by unfold swN; grind
  have e4 : swN (i + 1) (i + 1) = i + 1 + 1 := by unfold swN; grind
  have e5 : swN i i = i + 1 := by unfold swN; grind
  have e6 : swN (i + 1) (i + 1 + 1) = i + 1 := by unfold swN; grind
  simp only [e1, e2, e3, e4, e5, e6]
  omega
theorem up_next (ha : Pn n a) (hj : i + 1 + 1 < n) (h1 : up a i) (h2 : up a (i + 1)) : up (swapV a i) (i + 1) ∧ up (swapV (swapV a i) (i + 1)) i ∧ up (swapV a (i + 1)) i ∧ up (swapV (swapV a (i + 1)) i) (i + 1) := by
  have hi : i + 1 < n := by omega
  unfold up at *
  have hb := ha.back
  rw [back_swapV (ha.swapV hi) hj, back_swapV (ha.swapV hj) hi, back_swapV ha hi, back_swapV ha hj]
  rw [nsw hb hi, nsw hb hi, nsw (hb.swapAt hi) hj, nsw (hb.swapAt hi) hj, nsw hb hi, nsw hb hi, nsw hb hj, nsw hb hj, nsw (hb.swapAt hj) hi, nsw (hb.swapAt hj) hi, nsw hb hj, nsw hb hj]
  have e1 : swN i (i + 1) = i := by unfold swN; grind
  have e2 : swN i (i + 1 + 1) = i + 1 + 1 := by unfold swN; grind
  have e3 : swN (i + 1) i = i := by unfold swN; grind
  have e4 : swN (i + 1) (i + 1) = i + 1 + 1 := by unfold swN; grind
  have e5 : swN i i = i + 1 := by unfold swN; grind
  have e6 : swN (i + 1) (i + 1 + 1) = i + 1 := by unfold swN; grind
  simp only [e1, e2, e3, e4, e5, e6]
  omega
/-- Two crossings of the same pair. -/
theorem conf_same (post : List (List Int)) (ha : Pn n a) (hb : Pn n b) (hi : i + 1 < n) (hj : j + 1 < n) (ui : up a i) (di : dn b i) (uj : up a j) (dj : dn b j) :
    ∃ D, Reach n (swapV a i :: swapAt b i :: post) D ∧ Reach n (swapV a j :: swapAt b j :: post) D := by
  have next : ∀ i, i + 1 + 1 < n → up a i → dn b i → up a (i + 1) → dn b (i + 1) → ∃ D, Reach n (swapV a i :: swapAt b i :: post) D ∧ Reach n (swapV a (i + 1) :: swapAt b (i + 1) :: post) D := by
    intro i hj ui di uj dj
    have hi : i + 1 < n := by omega
    obtain ⟨u1, u2, u3, u4⟩ := up_next ha hj ui uj
    obtain ⟨d1, d2, d3, d4⟩ := dn_next hb hj di dj
    refine ⟨_, .head (.here post hj u1 d1) (.one (.here post hi u2 d2)), ?_⟩
    rw [swapV_braid, swapAt_braid hb hj]
    exact .head (.here post hi u3 d3) (.one (.here post hj u4 d4))
  by_cases e : i = j
  · subst e; exact ⟨_, .refl _, .refl _⟩
  · by_cases e1 : j = i + 1
    · subst e1; exact next i hj ui di uj dj
    · by_cases e2 : i = j + 1
      · subst e2
        obtain ⟨D, h1, h2⟩ := next j hi uj dj ui di
        exact ⟨D, h2, h1⟩
      · have hf : i + 1 < j ∨ j + 1 < i := by omega
        refine ⟨_, .one (.here post hj ((up_far ha hi hf).2 uj) ((dn_far hb hi hf).2 dj)), ?_⟩
        rw [swapV_far hf, swapAt_far hb hi hj hf]
        exact .one (.here post hi ((up_far ha hj hf.symm).2 ui) ((dn_far hb hj hf.symm).2 di))
/-- A crossing of a factor's beginning and one at its end. -/
theorem dn_keep (hb : Pn n b) (hi : i + 1 < n) (_hj : j + 1 < n) (di : dn b i) (uj : up b j) : dn (swapV b j) i := by
  unfold dn at *
  rw [nth_swapV _ _ _ (by rw [hb.len]; omega), nth_swapV _ _ _ (by rw [hb.len]; omega)]
  by_cases h : nth b (i + 1) = j ∧ nth b i = (j : Int) + 1
  · exfalso
    have h1 := back_at hb hi
    have h2 := back_at hb (q := i) (by omega)
    rw [h.1, Int.toNat_natCast] at h1
    rw [h.2, show ((j : Int) + 1).toNat = j + 1 by omega] at h2
    unfold up at uj
    omega
  · unfold swV; grind
theorem up_keep (hb : Pn n b) (hi : i + 1 < n) (hj : j + 1 < n) (di : dn b i) (uj : up b j) : up (swapAt b i) j := by
  unfold up at *
  rw [back_swapAt hb hi, nth_swapV _ _ _ (by rw [hb.back.len]; omega), nth_swapV _ _ _ (by rw [hb.back.len]; omega)]
  by_cases h : nth (backL b) j = i ∧ nth (backL b) (j + 1) = (i : Int) + 1
  · exfalso
    have h1 := back_at hb.back hj
    have h2 := back_at hb.back (q := j) (by omega)
    rw [back_back hb] at h1 h2
    rw [h.2, show ((i : Int) + 1).toNat = i + 1 by omega] at h1
    rw [h.1, Int.toNat_natCast] at h2
    unfold dn at di
    omega
  · unfold swV; grind
/-- A crossing of the first pair, and one behind it. -/
theorem conf_next {post G : List (List Int)} (_ha : Pn n a) (hg : Good n (b :: post)) (hi : i + 1 < n) (ui : up a i) (di : dn b i) (h : Step n (b :: post) G) :
    ∃ D, Reach n (swapV a i :: swapAt b i :: post) D ∧ Reach n (a :: G) D := by
  cases h with
  | here post' hj uj dj =>
    rename_i d j
    have hb := hg.hd
    refine ⟨_, .one (.next _ (.here post' hj (up_keep hb hi hj di uj) dj)), ?_⟩
    rw [← swap_comm hb hi j]
    exact .one (.here _ hi ui (dn_keep hb hi hj di uj))
  | next _ h =>
    exact ⟨_, .one (.next _ (.next _ h)), .one (.here _ hi ui di)⟩
end
theorem conf {n : Nat} {F A : List (List Int)} (h : Step n F A) : ∀ B, Good n F → Step n F B → ∃ D, Reach n A D ∧ Reach n B D := by
  induction h with
  | here post hi hu hd =>
    intro B g k
    cases k with
    | here _ hj uj dj => exact conf_same post g.hd g.tl.hd hi hj hu hd uj dj
    | next _ k => exact conf_next g.hd g.tl hi hu hd k
  | next x h ih =>
    intro B g k
    cases k with
    | here post hj uj dj =>
      obtain ⟨D, h1, h2⟩ := conf_next g.hd g.tl hj uj dj h
      exact ⟨D, h2, h1⟩
    | next _ k =>
      obtain ⟨D, h1, h2⟩ := ih _ g.tl k
      exact ⟨_, h1.cons x, h2.cons x⟩
theorem unique {n : Nat} : ∀ m F, mu F ≤ m → Good n F → ∀ A B, Reach n F A → Tight n A → Reach n F B → Tight n B → A = B := by
  intro m
  induction m with
  | zero =>
    intro F h g A B hA _ hB _
    cases hA with
    | head h1 _ => have := h1.mu g; omega
    | refl => cases hB with
      | refl => rfl
      | head h1 _ => have := h1.mu g; omega
  | succ m ih =>
    intro F h g A B hA tA hB tB
    cases hA with
    | refl => cases hB with
      | refl => rfl
      | head h1 _ => exact absurd h1 (tA _)
    | head h1 k1 =>
      cases hB with
      | refl => exact absurd h1 (tB _)
      | head h2 k2 =>
        obtain ⟨D, d1, d2⟩ := conf h1 _ g h2
        have m1 := h1.mu g
        have m2 := h2.mu g
        obtain ⟨T, t1, t2⟩ := exists_tight (n := n) _ D (Nat.le_refl _) (d1.good (h1.good g))
        have e1 := ih _ (by omega) (h1.good g) A T k1 tA (d1.trans t1) t2
        have e2 := ih _ (by omega) (h2.good g) B T k2 tB (d2.trans t1) t2
        rw [e1, e2]
/-- What is reached leads to the same end. -/
theorem same_end {n : Nat} {F G T : List (List Int)} (g : Good n F) (h : Reach n F G) (k : Reach n F T) (t : Tight n T) : Reach n G T := by
  obtain ⟨S, s1, s2⟩ := exists_tight (n := n) _ G (Nat.le_refl _) (h.good g)
  rw [unique _ F (Nat.le_refl _) g T S k t (h.trans s1) s2]
  exact s1

end Go.Proofs.Ytnmklkjlcpgjmaa

namespace Go.Proofs.Ytnmklkjlcpgjmaa
open Go.RowKit Go.Sl

section
variable {n : Nat} {a b d f g : List Int} {i j : Nat}
theorem back_iota (hn : n ≤ 1000) {i : Nat} (hi : i < n) : nth (backL (iota n)) i = i := by
  have := back_at (pn_iota hn) hi
  rwa [nth_iota _ _ hi, Int.toNat_natCast] at this
theorem up_iota (hn : n ≤ 1000) (hi : i + 1 < n) : up (iota n) i := by
  unfold up; rw [back_iota hn (by omega), back_iota hn hi]; omega
theorem not_dn_iota (hi : i + 1 < n) : ¬ dn (iota n) i := by
  unfold dn; rw [nth_iota _ _ hi, nth_iota _ _ (by omega)]; omega
theorem inv_asc (l : List Int) : Asc l → inv l = 0 := by
  induction l with
  | nil => intro _; rfl
  | cons x t ih =>
    intro h
    have h' := List.pairwise_cons.1 h
    have : less t x = 0 := by
      unfold less
      rw [List.length_eq_zero_iff, List.filter_eq_nil_iff]
      intro y hy
      have := h'.1 y hy
      simp; omega
    rw [inv, this, ih h'.2]
theorem inv_iota (n : Nat) : inv (iota n) = 0 := inv_asc _ (asc_iota n)
/-- A single crossing. -/
def sgP (n i : Nat) : List Int := swapV (iota n) i
theorem pn_sg (hn : n ≤ 1000) (hi : i + 1 < n) : Pn n (sgP n i) := (pn_iota hn).swapV hi
theorem swapAt_sg (hi : i + 1 < n) : swapAt (sgP n i) i = iota n := by
  unfold sgP
  rw [swapV_iota hi, swapAt_swapAt _ _ (by rw [iota_length]; exact hi)]
theorem dn_sg (hi : i + 1 < n) : dn (sgP n i) i := by
  unfold dn sgP
  rw [nth_swapV _ _ _ (by rw [iota_length]; exact hi), nth_swapV _ _ _ (by rw [iota_length]; omega), nth_iota _ _ hi, nth_iota _ _ (by omega)]
  unfold swV; grind
theorem inv_sg (hn : n ≤ 1000) (hi : i + 1 < n) : inv (sgP n i) = 1 := by
  unfold sgP; rw [inv_up (pn_iota hn) hi (up_iota hn hi), inv_iota]

theorem thenL_swap (ha : Pn n a) (hb : Pn n b) (hi : i + 1 < n) : thenL (swapV a i) (swapAt b i) = thenL a b := by
  refine ext_nth (by simp [thenL_length, swapV_length]) fun q hq => ?_
  rw [thenL_length, swapV_length, ha.len] at hq
  rw [nth_thenL _ _ _ (by rw [swapV_length, ha.len]; exact hq), nth_thenL _ _ _ (by rw [ha.len]; exact hq), nth_swapV _ _ _ (by rw [ha.len]; exact hq), nsw hb hi]
  have hr := ha.range hq
  congr 1
  unfold swN swV; grind
theorem thenL_swapV (ha : Pn n a) (hd : Pn n d) : thenL a (swapV d j) = swapV (thenL a d) j := by
  refine ext_nth (by simp [thenL_length, swapV_length]) fun q hq => ?_
  rw [thenL_length, ha.len] at hq
  have hr := ha.range hq
  rw [nth_thenL _ _ _ (by rw [ha.len]; exact hq), nth_swapV _ _ _ (by rw [hd.len]; omega), nth_swapV _ _ _ (by rw [thenL_length, ha.len]; exact hq), nth_thenL _ _ _ (by rw [ha.len]; exact hq)]
theorem then_iota (ha : Pn n a) : thenL a (iota n) = a := by
  have := iota_thenL ha.perm.range
  rwa [ha.len] at this
theorem iota_then (ha : Pn n a) : thenL (iota n) a = a := by
  have := thenL_iota a
  rwa [ha.len] at this
theorem inv_sub (hn : n ≤ 1000) (ha : Pn n a) : ∀ d, Pn n d → inv (thenL a d) ≤ inv a + inv d := by
  refine permInd hn ?_ fun f j hf hj hu ih => ?_
  · rw [then_iota ha]; omega
  · rw [thenL_swapV ha hf, inv_up hf hj hu]
    have hp := ha.then hf
    rcases up_or hp hj with h | h
    · rw [inv_up hp hj h]; omega
    · have := inv_down hp hj h; omega
theorem step_iota {F G : List (List Int)} (h : Step n (F ++ [iota n]) G) : ∃ F', G = F' ++ [iota n] ∧ Step n F F' := by
  induction F generalizing G with
  | nil => cases h with
    | next _ h => cases h
  | cons x F ih =>
    cases F with
    | nil =>
      cases h with
      | here post hi hu hd => exact absurd hd (not_dn_iota hi)
      | next _ h => cases h with
        | next _ h => cases h
    | cons y F =>
      cases h with
      | here post hi hu hd => exact ⟨_ :: _ :: F, rfl, .here F hi hu hd⟩
      | next _ h =>
        obtain ⟨F', e, k⟩ := ih h
        exact ⟨x :: F', by rw [e]; rfl, .next x k⟩
theorem reach_iota {A G : List (List Int)} (h : Reach n A G) : ∀ F, A = F ++ [iota n] → ∃ F', G = F' ++ [iota n] ∧ Reach n F F' := by
  induction h with
  | refl A => exact fun F e => ⟨F, e, .refl F⟩
  | head h k ih =>
    intro F e
    subst e
    obtain ⟨F1, e1, h1⟩ := step_iota h
    obtain ⟨F2, e2, h2⟩ := ih F1 e1
    exact ⟨F2, e2, .head h1 h2⟩
theorem reach_strip {F T : List (List Int)} (h : Reach n (F ++ [iota n]) (T ++ [iota n])) : Reach n F T := by
  obtain ⟨F', e, k⟩ := reach_iota h F rfl
  rw [List.append_cancel_right e]; exact k
theorem tight_one (a : List Int) : Tight n [a] := fun G h => by
  cases h with
  | next _ h => cases h
theorem tight_nil : Tight n [] := fun G h => by cases h
theorem Tight.tl {T : List (List Int)} (h : Tight n (a :: T)) : Tight n T := fun _G k => h _ (.next a k)
theorem Tight.pair {T : List (List Int)} (h : Tight n (a :: b :: T)) : ∀ i, i + 1 < n → dn b i → ¬ up a i := fun _i hi hd hu => h _ (.here T hi hu hd)
theorem tight_cons {T : List (List Int)} (h : Tight n (b :: T)) (k : ∀ i, i + 1 < n → dn b i → ¬ up a i) : Tight n (a :: b :: T) := fun G s => by
  cases s with
  | here post hi hu hd => exact k _ hi hd hu
  | next _ s => exact h _ s
theorem tight_iota {T : List (List Int)} (h : Tight n T) : Tight n (T ++ [iota n]) := fun G s => by
  obtain ⟨F', _, k⟩ := step_iota s
  exact h _ k

/-- Two factors whose product is a factor. -/
theorem rp (hn : n ≤ 1000) (ha : Pn n a) : ∀ d, Pn n d → inv (thenL a d) = inv a + inv d → Reach n [a, d] [thenL a d, iota n] := by
  refine permInd hn (fun _ => by rw [then_iota ha]; exact .refl _) fun f j hf hj hu ih h => ?_
  rw [thenL_swapV ha hf] at h ⊢
  have hp := ha.then hf
  have hsub := inv_sub hn ha f hf
  rw [inv_up hf hj hu] at h
  have hup : up (thenL a f) j := by
    rcases up_or hp hj with h1 | h1
    · exact h1
    · have := inv_down hp hj h1; omega
  rw [inv_up hp hj hup] at h
  have hih := ih (by omega)
  have r1 : Reach n [a, f, sgP n j] [a, swapV f j, iota n] := by
    have := Step.next a (Step.here (n := n) (b := sgP n j) [] hj hu (dn_sg hj))
    rw [swapAt_sg hj] at this
    exact .one this
  have r2 : Reach n [a, f, sgP n j] [swapV (thenL a f) j, iota n, iota n] := by
    have s1 : Reach n [a, f, sgP n j] [thenL a f, iota n, sgP n j] := hih.post [sgP n j]
    have s2 : Step n [thenL a f, iota n, sgP n j] [thenL a f, sgP n j, iota n] := by
      have := Step.next (thenL a f) (Step.here (n := n) (b := sgP n j) [] hj (up_iota hn hj) (dn_sg hj))
      rw [swapAt_sg hj] at this
      exact this
    have s3 : Step n [thenL a f, sgP n j, iota n] [swapV (thenL a f) j, iota n, iota n] := by
      have := Step.here (n := n) (b := sgP n j) [iota n] hj hup (dn_sg hj)
      rw [swapAt_sg hj] at this
      exact this
    exact s1.trans (.head s2 (.one s3))
  have g : Good n [a, f, sgP n j] := .cons ha (.cons hf (.cons (pn_sg hn hj) (good_nil n)))
  have t : Tight n [swapV (thenL a f) j, iota n, iota n] := tight_iota (T := [_, _]) (tight_iota (T := [_]) (tight_one _))
  have := same_end g r1 r2 t
  exact reach_strip (F := [a, swapV f j]) (T := [swapV (thenL a f) j, iota n]) this

/-! The half twist. -/
def hf (n : Nat) : List Int := (iota n).reverse
theorem hf_length (n : Nat) : (hf n).length = n := by simp [hf, iota_length]
theorem nth_grev (l : List Int) {q : Nat} (h : q < l.length) : nth l.reverse q = nth l (l.length - 1 - q) := by
  rw [nth_lt (by simpa using h), List.getElem_reverse, nth_lt (by omega)]
theorem nth_hf {q : Nat} (h : q < n) : nth (hf n) q = (n : Int) - 1 - q := by
  unfold hf
  rw [nth_grev _ (by rw [iota_length]; exact h), iota_length, nth_iota _ _ (by omega)]; omega
theorem pn_hf (hn : n ≤ 1000) : Pn n (hf n) := ⟨⟨by rw [hf_length]; exact List.reverse_perm _, by rw [hf_length]; exact hn⟩, hf_length n⟩
theorem back_hf (hn : n ≤ 1000) {x : Nat} (h : x < n) : nth (backL (hf n)) x = (n : Int) - 1 - x := by
  have := back_at (pn_hf hn) (q := n - 1 - x) (by omega)
  rw [nth_hf (by omega)] at this
  rw [show ((n : Int) - 1 - ((n - 1 - x : Nat) : Int)).toNat = x by omega] at this
  rw [this]; omega
theorem not_up_hf (hn : n ≤ 1000) (hi : i + 1 < n) : ¬ up (hf n) i := by
  unfold up; rw [back_hf hn (by omega), back_hf hn hi]; omega
theorem dn_hf (hi : i + 1 < n) : dn (hf n) i := by
  unfold dn; rw [nth_hf hi, nth_hf (by omega)]; omega
theorem tight_hf (hn : n ≤ 1000) {T : List (List Int)} (h : Tight n T) : Tight n (hf n :: T) := by
  cases T with
  | nil => exact tight_one _
  | cons b T => exact tight_cons h fun i hi _ => not_up_hf hn hi
/-- Only the half twist takes no crossing. -/
theorem hf_of (hn : n ≤ 1000) (ha : Pn n a) (h : ∀ i, i + 1 < n → ¬ up a i) : a = hf n := by
  have h1 : ∀ i, i + 1 < n → dn (backL a) i := fun i hi => (up_or ha hi).resolve_left (h i hi)
  have h2 : (backL a).reverse = iota n := by
    have hp : Pn n (backL a).reverse := by
      have hb := ha.back
      exact ⟨⟨by rw [List.length_reverse]; exact (List.reverse_perm _).trans hb.perm.perm, by rw [List.length_reverse]; exact hb.perm.small⟩, by rw [List.length_reverse, hb.len]⟩
    have e : ∀ i, i + 1 < n → nth (backL a).reverse i < nth (backL a).reverse (i + 1) := fun i hi => by
      have hb := ha.back
      have := h1 (n - 2 - i) (by omega)
      unfold dn at this
      rw [nth_grev _ (by rw [hb.len]; omega), nth_grev _ (by rw [hb.len]; omega), hb.len]
      rw [show n - 1 - (i + 1) = n - 2 - i by omega, show n - 1 - i = n - 2 - i + 1 by omega]
      exact this
    have := iota_of hp.back (fun i hi => by unfold up; rw [back_back hp]; exact e i hi)
    have h3 := congrArg backL this
    rw [back_back hp] at h3
    rw [h3]
    refine ext_nth (by rw [backL_length]) fun q hq => ?_
    rw [backL_length, iota_length] at hq
    rw [back_iota hn hq, nth_iota _ _ hq]
  have h3 : backL a = hf n := by unfold hf; rw [← h2, List.reverse_reverse]
  have h4 := back_back ha
  rw [h3] at h4
  rw [← h4]
  refine ext_nth (by rw [backL_length]) fun q hq => ?_
  rw [backL_length, hf_length] at hq
  rw [back_hf hn hq, nth_hf hq]
theorem inv_hf_up (hn : n ≤ 1000) (hi : i + 1 < n) : inv (swapV (hf n) i) + 1 = inv (hf n) := inv_down (pn_hf hn) hi ((up_or (pn_hf hn) hi).resolve_left (not_up_hf hn hi))
/-- What is left to the half twist. -/
theorem compl (hn : n ≤ 1000) : ∀ f, Pn n f → ∃ g, Pn n g ∧ thenL f g = hf n ∧ inv f + inv g = inv (hf n) := by
  refine permInd hn ⟨hf n, pn_hf hn, iota_then (pn_hf hn), by rw [inv_iota]; omega⟩ fun f j hf' hj hu ih => ?_
  obtain ⟨g, hg, e, hi⟩ := ih
  have hat : ∀ q, q < n → nth g (nth f q).toNat = (n : Int) - 1 - q := fun q hq => by
    have := congrArg (fun l => nth l q) e
    rwa [nth_thenL _ _ _ (by rw [hf'.len]; exact hq), nth_hf hq] at this
  have hd : dn g j := by
    obtain ⟨p, hp, e1, e2⟩ := hit hf' (x := j) (by omega)
    obtain ⟨q, hq, e3, e4⟩ := hit hf' (x := j + 1) hj
    have h1 := hat p hp
    have h2 := hat q hq
    rw [e1, Int.toNat_natCast] at h1
    rw [e3, Int.toNat_natCast] at h2
    unfold up at hu
    rw [e2, e4] at hu
    unfold dn
    omega
  exact ⟨swapAt g j, hg.swapAt hj, by rw [thenL_swap hf' hg hj, e], by rw [inv_up hf' hj hu]; have := inv_dn hg hj hd; omega⟩

/-! Turned factors. -/
def turnP (n : Nat) (a : List Int) : List Int := a.reverse.map fun x => (n : Int) - 1 - x
theorem turn_length (a : List Int) : (turnP n a).length = a.length := by simp [turnP]
theorem nth_turn (ha : a.length = n) {q : Nat} (h : q < n) : nth (turnP n a) q = (n : Int) - 1 - nth a (n - 1 - q) := by
  unfold turnP
  rw [nth_map _ _ _ (by simpa [ha] using h), nth_grev _ (by rw [ha]; exact h), ha]
theorem turn_iota : turnP n (iota n) = iota n := by
  refine ext_nth (by rw [turn_length]) fun q hq => ?_
  rw [turn_length, iota_length] at hq
  rw [nth_turn (iota_length n) hq, nth_iota _ _ hq, nth_iota _ _ (by omega)]; omega
theorem pn_turn (ha : Pn n a) : Pn n (turnP n a) := by
  refine ⟨⟨?_, by rw [turn_length]; exact ha.perm.small⟩, by rw [turn_length, ha.len]⟩
  rw [turn_length, ha.len]
  have h1 : a.Perm (iota n) := by have := ha.perm.perm; rwa [ha.len] at this
  have h2 : (turnP n a).Perm (turnP n (iota n)) := ((List.reverse_perm a).trans (h1.trans (List.reverse_perm (iota n)).symm)).map _
  rw [turn_iota] at h2
  exact h2
theorem turn_turn (ha : Pn n a) : turnP n (turnP n a) = a := by
  refine ext_nth (by rw [turn_length, turn_length]) fun q hq => ?_
  rw [turn_length, turn_length, ha.len] at hq
  rw [nth_turn (by rw [turn_length, ha.len]) hq, nth_turn ha.len (by omega), show n - 1 - (n - 1 - q) = q by omega]; omega
theorem turn_hf : turnP n (hf n) = hf n := by
  refine ext_nth (by rw [turn_length]) fun q hq => ?_
  rw [turn_length, hf_length] at hq
  rw [nth_turn (hf_length n) hq, nth_hf hq, nth_hf (by omega)]; omega
theorem back_turn (ha : Pn n a) {x : Nat} (hx : x < n) : nth (backL (turnP n a)) x = (n : Int) - 1 - nth (backL a) (n - 1 - x) := by
  obtain ⟨q, hq, e1, e2⟩ := hit ha (x := n - 1 - x) (by omega)
  have h1 := back_at (pn_turn ha) (q := n - 1 - q) (by omega)
  rw [nth_turn ha.len (by omega), show n - 1 - (n - 1 - q) = q by omega, e1] at h1
  rw [show ((n : Int) - 1 - ((n - 1 - x : Nat) : Int)).toNat = x by omega] at h1
  rw [h1, e2]; omega
theorem up_turn (ha : Pn n a) (hi : i + 1 < n) : up (turnP n a) i ↔ up a (n - 2 - i) := by
  unfold up
  rw [back_turn ha (by omega), back_turn ha hi, show n - 1 - i = n - 2 - i + 1 by omega, show n - 1 - (i + 1) = n - 2 - i by omega]
  omega
theorem dn_turn (ha : Pn n a) (hi : i + 1 < n) : dn (turnP n a) i ↔ dn a (n - 2 - i) := by
  unfold dn
  rw [nth_turn ha.len hi, nth_turn ha.len (by omega), show n - 1 - i = n - 2 - i + 1 by omega, show n - 1 - (i + 1) = n - 2 - i by omega]
  omega
theorem turn_swapV (ha : Pn n a) (hi : i + 1 < n) : turnP n (swapV a i) = swapV (turnP n a) (n - 2 - i) := by
  refine ext_nth (by simp [turn_length, swapV_length]) fun q hq => ?_
  rw [turn_length, swapV_length, ha.len] at hq
  rw [nth_turn (by rw [swapV_length, ha.len]) hq, nth_swapV _ _ _ (by rw [ha.len]; omega), nth_swapV _ _ _ (by rw [turn_length, ha.len]; exact hq), nth_turn ha.len hq]
  unfold swV; grind
theorem turn_swapAt (ha : Pn n a) (hi : i + 1 < n) : turnP n (swapAt a i) = swapAt (turnP n a) (n - 2 - i) := by
  refine ext_nth (by simp [turn_length, swapAt_length]) fun q hq => ?_
  rw [turn_length, swapAt_length, ha.len] at hq
  rw [nth_turn (by rw [swapAt_length, ha.len]) hq, nsw ha hi, nsw (pn_turn ha) (by omega), nth_turn ha.len (swN_lt (by omega) hq)]
  congr 2
  unfold swN; grind
theorem inv_turn (hn : n ≤ 1000) : ∀ f, Pn n f → inv (turnP n f) = inv f := by
  refine permInd hn (by rw [turn_iota]) fun f j hf' hj hu ih => ?_
  rw [turn_swapV hf' hj, inv_up hf' hj hu, inv_up (pn_turn hf') (by omega) ((up_turn hf' (by omega)).2 (by rw [show n - 2 - (n - 2 - j) = j by omega]; exact hu)), ih]
theorem step_turn {F G : List (List Int)} (h : Step n F G) : Good n F → Step n (F.map (turnP n)) (G.map (turnP n)) := by
  induction h with
  | here post hi hu hd =>
    rename_i a b i
    intro g
    have e : n - 2 - (n - 2 - i) = i := by omega
    rw [List.map_cons, List.map_cons, List.map_cons, List.map_cons, turn_swapV g.hd hi, turn_swapAt g.tl.hd hi]
    exact .here _ (by omega) ((up_turn g.hd (by omega)).2 (by rw [e]; exact hu)) ((dn_turn g.tl.hd (by omega)).2 (by rw [e]; exact hd))
  | next x h ih => exact fun g => .next _ (ih g.tl)
theorem good_turn {F : List (List Int)} (h : Good n F) : Good n (F.map (turnP n)) := fun x hx => by
  obtain ⟨y, hy, rfl⟩ := List.mem_map.1 hx
  exact pn_turn (h y hy)
theorem map_turn_turn {F : List (List Int)} (h : Good n F) : (F.map (turnP n)).map (turnP n) = F := by
  rw [List.map_map]
  have : ∀ x ∈ F, (turnP n ∘ turnP n) x = x := fun x hx => turn_turn (h x hx)
  rw [List.map_congr_left this, List.map_id']
theorem compl_turn (hf' : Pn n f) (hg : Pn n g) (e : thenL f g = hf n) : thenL g (turnP n f) = hf n := by
  refine ext_nth (by rw [thenL_length, hg.len, hf_length]) fun p hp => ?_
  rw [thenL_length, hg.len] at hp
  obtain ⟨q, hq, e1, -⟩ := hit hf' hp
  have h1 := congrArg (fun l => nth l q) e
  rw [nth_thenL _ _ _ (by rw [hf'.len]; exact hq), nth_hf hq, e1, Int.toNat_natCast] at h1
  rw [nth_thenL _ _ _ (by rw [hg.len]; exact hp), h1, nth_hf hp, show ((n : Int) - 1 - (q : Int)).toNat = n - 1 - q by omega, nth_turn hf'.len (by omega), show n - 1 - (n - 1 - q) = q by omega, e1]
/-- The half twist passes a factor. -/
theorem half_pass (hn : n ≤ 1000) (hf' : Pn n f) : Reach n [f, hf n] [hf n, turnP n f] := by
  obtain ⟨g, hg, e, hi⟩ := compl hn f hf'
  have e2 := compl_turn hf' hg e
  have ht := pn_turn hf'
  have it := inv_turn hn f hf'
  have r1 : Reach n [f, g, turnP n f] [f, hf n, iota n] := by
    have := rp hn hg (turnP n f) ht (by rw [e2, it]; omega)
    rw [e2] at this
    exact this.cons f
  have r2 : Reach n [f, g, turnP n f] [hf n, turnP n f, iota n] := by
    have s1 := (rp hn hf' g hg (by rw [e]; omega)).post [turnP n f]
    rw [e] at s1
    have s2 := (rp hn (pn_iota hn) (turnP n f) ht (by rw [iota_then ht, inv_iota]; omega)).cons (hf n)
    rw [iota_then ht] at s2
    exact s1.trans s2
  have gd : Good n [f, g, turnP n f] := .cons hf' (.cons hg (.cons ht (good_nil n)))
  have t : Tight n [hf n, turnP n f, iota n] := tight_hf hn (tight_iota (T := [_]) (tight_one _))
  exact reach_strip (F := [f, hf n]) (T := [hf n, turnP n f]) (same_end gd r1 r2 t)
theorem half_front (hn : n ≤ 1000) (F : List (List Int)) : Good n F → Reach n (F ++ [hf n]) (hf n :: F.map (turnP n)) := by
  induction F with
  | nil => intro _; exact .refl _
  | cons x F ih =>
    intro g
    exact ((ih g.tl).cons x).trans ((half_pass hn g.hd).post (F.map (turnP n)))
end

end Go.Proofs.Ytnmklkjlcpgjmaa

namespace Go.Proofs.Ytnmklkjlcpgjmaa
open Go.RowKit Go.Sl

def nthv (vs : List Value) (i : Nat) : Value := vs.getD i undef
def nthr (xss : List (List Int)) (i : Nat) : List Int := xss.getD i []
theorem nthv_lt {vs : List Value} {i : Nat} (h : i < vs.length) : nthv vs i = vs[i] := by simp [nthv, h]
theorem nthr_lt {xss : List (List Int)} {i : Nat} (h : i < xss.length) : nthr xss i = xss[i] := by simp [nthr, h]
theorem nthr_mem {xss : List (List Int)} {i : Nat} (h : i < xss.length) : nthr xss i ∈ xss := by rw [nthr_lt h]; exact List.getElem_mem h

/-- The slice v of slices holds the values vs, which read as the lists xss. -/
def RowsV (w : World) (v : Value) (vs : List Value) (xss : List (List Int)) : Prop := Sl w v 1 vs ∧ vs.length = xss.length ∧ ∀ i, i < xss.length → Ints w (nthv vs i) (nthr xss i)
def Rows2 (w : World) (v : Value) (xss : List (List Int)) : Prop := ∃ vs, RowsV w v vs xss

section
variable {w w' : World} {v : Value} {vs : List Value} {xss : List (List Int)} {B : Nat}
theorem RowsV.isSl (h : RowsV w v vs xss) : IsSl v := h.1.1
theorem RowsV.len (h : RowsV w v vs xss) : vlen v = xss.length := by have := h.1.2.1; rw [h.2.1] at this; omega
theorem RowsV.cell (h : RowsV w v vs xss) {i : Nat} (hi : i < xss.length) : w.cell? (vat v i) = some (nthv vs i) := by
  have := Sl.cell h.1 (j := i) (by rw [h.2.1]; exact hi)
  rw [this, nthv_lt (by rw [h.2.1]; exact hi)]
theorem RowsV.row (h : RowsV w v vs xss) {i : Nat} (hi : i < xss.length) : Ints w (nthv vs i) (nthr xss i) := h.2.2 i hi
theorem RowsV.below (h : RowsV w v vs xss) (hb : Below w.heap.size w w') : RowsV w' v vs xss := ⟨h.1.below hb, h.2.1, fun i hi => (h.2.2 i hi).below hb⟩
theorem RowsV.alloc (h : RowsV w v vs xss) (o : Obj) : RowsV (w.alloc o) v vs xss := h.below ((Below.refl _ _).alloc (Nat.le_refl _) o)
theorem Rows2.isSl (h : Rows2 w v xss) : IsSl v := h.choose_spec.isSl
theorem Rows2.len (h : Rows2 w v xss) : vlen v = xss.length := h.choose_spec.len
theorem Rows2.below (h : Rows2 w v xss) (hb : Below w.heap.size w w') : Rows2 w' v xss := let ⟨vs, h⟩ := h; ⟨vs, h.below hb⟩
/-- The call's own slice of slices: its rows are read, it may be appended to. -/
def OwnR (w : World) (B : Nat) (v : Value) (xss : List (List Int)) : Prop := ∃ vs, Own w B 22 1 v vs ∧ vs.length = xss.length ∧ ∀ i, i < xss.length → Ints w (nthv vs i) (nthr xss i)
theorem OwnR.rows (h : OwnR w B v xss) : Rows2 w v xss := let ⟨vs, a, b, c⟩ := h; ⟨vs, a.sl, b, c⟩
theorem OwnR.isSl (h : OwnR w B v xss) : IsSl v := h.rows.isSl
theorem OwnR.len (h : OwnR w B v xss) : vlen v = xss.length := h.rows.len
theorem OwnR.lt (h : OwnR w B v xss) : ∀ k, row v = some k → B ≤ k ∧ k < w.heap.size := let ⟨_, a, _, _⟩ := h; a.lt
theorem OwnR.below (h : OwnR w B v xss) (hb : Below w.heap.size w w') : OwnR w' B v xss := let ⟨vs, a, b, c⟩ := h; ⟨vs, a.below hb, b, fun i hi => (c i hi).below hb⟩
theorem OwnR.low (h : OwnR w B v xss) {B' : Nat} (hB : B' ≤ B) : OwnR w B' v xss := let ⟨vs, a, b, c⟩ := h; ⟨vs, a.low hB, b, c⟩
/-- No row lies in the slice's own block. -/
def OwnR.apart (w : World) (B : Nat) (v : Value) (xss : List (List Int)) : Prop := ∃ vs, Own w B 22 1 v vs ∧ vs.length = xss.length ∧ (∀ i, i < xss.length → Ints w (nthv vs i) (nthr xss i)) ∧ ∀ i, i < xss.length → 0 < (nthr xss i).length → row v ≠ some (vblk (nthv vs i))
theorem OwnR.apart.own (h : OwnR.apart w B v xss) : OwnR w B v xss := let ⟨vs, a, b, c, _⟩ := h; ⟨vs, a, b, c⟩
theorem OwnR.apart.below (h : OwnR.apart w B v xss) (hb : Below w.heap.size w w') : OwnR.apart w' B v xss := let ⟨vs, a, b, c, d⟩ := h; ⟨vs, a.below hb, b, fun i hi => (c i hi).below hb, d⟩
theorem ownRA_nil (w : World) (B : Nat) : OwnR.apart w B (.slice none 0 0) [] := ⟨[], own_nil w B _ 1, rfl, fun i hi => absurd hi (by simp), fun i hi => absurd hi (by simp)⟩
end

theorem Ints.keep {w w' : World} {v : Value} {xs : List Int} (h : Ints w v xs) {r : Option Nat} (hg : w.grownBy w' r) (hr : 0 < xs.length → r ≠ some (vblk v)) : Ints w' v xs := by
  rcases Nat.eq_zero_or_pos xs.length with h0 | h0
  · obtain rfl := List.eq_nil_of_length_eq_zero h0
    exact ⟨h.1, h.2.1, by simp⟩
  · exact h.grown hg fun k hk e => hr h0 (by rw [hk, e])
theorem Ints.blk_lt {w : World} {v : Value} {xs : List Int} (h : Ints w v xs) (h0 : 0 < xs.length) : vblk v < w.heap.size := by
  have := World.block_lt_of_cell? w _ (h.cell h0); exact this

/-- append of one row. -/
theorem wpList_pushRow {w : World} {ops : Array Oper} {rest : List Oper} {o : Oper} {a : Act} {Q : Exit → Act → World → Prop} (hgd : o.guard = none) (s x : Operand)
    (ho : o.op = .call { callee := .builtin .append, args := #[s, x], argTypes := #[41, 41] })
    {B : Nat} {v r : Value} {xss : List (List Int)} {ys : List Int} (hs : a.eval s = v) (hx : a.eval x = .slice (some ⟨w.heap.size, 0, none⟩) 1 1) (hown : OwnR.apart w B v xss) (hy : Ints w r ys) (hB : B ≤ w.heap.size) (hlen : xss.length ≤ 1000000000000)
    (hap : 0 < ys.length → row v ≠ some (vblk r))
    (h : ∀ v' w', OwnR.apart w' B v' (xss ++ [ys]) → w.grownBy w' (row v) → (∀ k, row v' = some k → row v = some k ∨ w.heap.size ≤ k) → wpList Try.prog ops Q rest (a.put o.dst v') w') :
    wpList Try.prog ops Q (o :: rest) a (w.alloc (.cells #[r] 22)) := by
  obtain ⟨i, hi, hz0, hz1, hz2⟩ := info_parts info_slice
  have hl : vlen v = xss.length := hown.own.len
  obtain ⟨vs, ha, hvl, hrows, hapr⟩ := hown
  refine wpList_append_sl hgd s x _ ho B 22 i _ 1 24 Try.underlying41 hi hz0 hz1 hz2 rfl (by decide) hs hx (Own.alloc ha _) (sl_one w r 22)
    (by intro u hu; simp at hu; subst hu; exact oneCell'_sl hy.1) (by simp only [vlen_mk, hl, maxLen]; omega) (by simp only [vlen_mk, hl]; omega) (by simp; omega) ?_
  intro v' w' h1 h2 h3
  have hg : w.grownBy w' (row v) := ⟨h2.os, h2.tape, h2.output, by have := h2.size; simp at this; omega, fun k hk hr => (h2.block k (by simp; omega) hr).trans (Below.heap_alloc w _ k hk)⟩
  have hfr : ∀ k, row v' = some k → row v = some k ∨ w.heap.size ≤ k := by
    intro k hk; rcases h3 k hk with h | h
    · exact .inl h
    · exact .inr (by simp at h; omega)
  have hnv : ∀ i, i < xss.length → nthv (vs ++ [r]) i = nthv vs i ∧ nthr (xss ++ [ys]) i = nthr xss i := by
    intro i hi
    simp [nthv, nthr, List.getElem?_append, hvl, hi]
  have hlast : nthv (vs ++ [r]) xss.length = r ∧ nthr (xss ++ [ys]) xss.length = ys := by
    simp [nthv, nthr, hvl]
  refine h v' w' ⟨vs ++ [r], h1, by simp [hvl], fun i hi => ?_, fun i hi h0 => ?_⟩ hg hfr
  · simp only [List.length_append, List.length_cons, List.length_nil] at hi
    rcases Nat.lt_or_ge i xss.length with hlt | hge
    · rw [(hnv i hlt).1, (hnv i hlt).2]
      exact (hrows i hlt).keep hg (hapr i hlt)
    · obtain rfl : i = xss.length := by omega
      rw [hlast.1, hlast.2]
      exact hy.keep hg hap
  · simp only [List.length_append, List.length_cons, List.length_nil] at hi
    intro e
    rcases Nat.lt_or_ge i xss.length with hlt | hge
    · rw [(hnv i hlt).2] at h0
      rw [(hnv i hlt).1] at e
      rcases hfr _ e with h4 | h4
      · exact hapr i hlt h0 h4
      · have := (hrows i hlt).blk_lt h0; omega
    · obtain rfl : i = xss.length := by omega
      rw [hlast.2] at h0
      rw [hlast.1] at e
      rcases hfr _ e with h4 | h4
      · exact hap h0 h4
      · have := hy.blk_lt h0; omega

end Go.Proofs.Ytnmklkjlcpgjmaa

namespace Go.Proofs.Ytnmklkjlcpgjmaa
open Go.RowKit Go.Sl

/-- One letter, on the images of the word behind it. -/
def stepA (xss : List (List Int)) (x : Int) : List (List Int) :=
  if 0 < x then (xss.set (x.natAbs - 1) (redL (nthr xss (x.natAbs - 1) ++ nthr xss x.natAbs ++ invL (nthr xss (x.natAbs - 1))))).set x.natAbs (nthr xss (x.natAbs - 1))
  else (xss.set (x.natAbs - 1) (nthr xss x.natAbs)).set x.natAbs (redL (invL (nthr xss x.natAbs) ++ nthr xss (x.natAbs - 1) ++ nthr xss x.natAbs))
def gensA (n : Nat) : List (List Int) := (List.range n).map fun (i : Nat) => [(i : Int) + 1]
def imagesA (n : Nat) (xs : List Int) : List (List Int) := xs.reverse.foldl stepA (gensA n)

theorem stepA_length (xss : List (List Int)) (x : Int) : (stepA xss x).length = xss.length := by
  unfold stepA; split <;> simp
theorem gensA_length (n : Nat) : (gensA n).length = n := by simp [gensA]
theorem gensA_succ (n : Nat) : gensA (n + 1) = gensA n ++ [[(n : Int) + 1]] := by simp [gensA, List.range_succ]

/-- All letters are those of the generators. -/
def SmallA (xss : List (List Int)) : Prop := ∀ r ∈ xss, (∀ x ∈ r, -1000 ≤ x ∧ x ≤ 1000) ∧ r.length ≤ 3000
end Go.Proofs.Ytnmklkjlcpgjmaa

namespace Go.Proofs.Ytnmklkjlcpgjmaa
open Go.RowKit Go.Sl

theorem rd_iff (l : List Int) : Rd l ↔ ∀ i, i + 1 < l.length → nth l (i + 1) ≠ -(nth l i) := by
  induction l with
  | nil => exact ⟨fun _ i h => by simp at h, fun _ => trivial⟩
  | cons x t ih =>
    cases t with
    | nil => exact ⟨fun _ i h => by simp at h, fun _ => trivial⟩
    | cons y t =>
      constructor
      · rintro ⟨h1, h2⟩ i hi
        cases i with
        | zero => simpa [nth] using h1
        | succ i =>
          have := ih.1 h2 i (by simpa using hi)
          simpa [nth] using this
      · intro h
        refine ⟨by simpa [nth] using h 0 (by simp), ih.2 fun i hi => ?_⟩
        have := h (i + 1) (by simpa using hi)
        simpa [nth] using this
theorem nth_reverse' {l : List Int} {i : Nat} (h : i < l.length) : nth l.reverse i = nth l (l.length - 1 - i) := by
  rw [nth_lt (by simpa using h), nth_lt (by omega), List.getElem_reverse]
theorem rd_reverse {l : List Int} (h : Rd l) : Rd l.reverse := by
  rw [rd_iff] at h ⊢
  intro i hi
  rw [List.length_reverse] at hi
  rw [nth_reverse' hi, nth_reverse' (by omega)]
  have := h (l.length - 1 - (i + 1)) (by omega)
  rw [show l.length - 1 - (i + 1) + 1 = l.length - 1 - i by omega] at this
  omega
theorem redL_rd (xs : List Int) : Rd (redL xs) := rd_reverse (act_rd rd_nil xs)
theorem rd_mid {a b : List Int} {y x : Int} (h : Rd (a ++ y :: x :: b)) : x ≠ -y := by
  induction a with
  | nil => exact h.1
  | cons z a ih => exact ih (Rd.tail h)
theorem act_rd_append (l : List Int) : ∀ s, Rd (s.reverse ++ l) → act s l = l.reverse ++ s := by
  induction l with
  | nil => intro s _; rfl
  | cons x l ih =>
    intro s h
    have hp : psh s x = x :: s := by
      cases s with
      | nil => rfl
      | cons y t =>
        rw [psh, if_neg]
        intro e
        rw [List.reverse_cons, List.append_assoc] at h
        exact rd_mid h (by omega)
    show act (psh s x) l = _
    rw [hp, ih (x :: s) (by rw [List.reverse_cons, List.append_assoc]; exact h)]
    simp
theorem redL_of_rd {l : List Int} (h : Rd l) : redL l = l := by
  rw [redL, act_rd_append l [] (by simpa using h)]; simp
theorem nth_append (a b : List Int) (i : Nat) : nth (a ++ b) i = if i < a.length then nth a i else nth b (i - a.length) := by
  unfold nth
  split
  · rename_i h; simp [List.getElem?_append, h]
  · rename_i h; simp [List.getElem?_append, h]
theorem rd_append {a b : List Int} (ha : a ≠ []) (hb : b ≠ []) : Rd (a ++ b) ↔ Rd a ∧ Rd b ∧ nth b 0 ≠ -(nth a (a.length - 1)) := by
  have la := List.length_pos_iff.2 ha
  have lb := List.length_pos_iff.2 hb
  rw [rd_iff, rd_iff, rd_iff]
  constructor
  · intro h
    refine ⟨fun i hi => ?_, fun i hi => ?_, ?_⟩
    · have := h i (by rw [List.length_append]; omega)
      rwa [nth_append, if_pos hi, nth_append, if_pos (by omega)] at this
    · have := h (a.length + i) (by rw [List.length_append]; omega)
      rwa [nth_append, if_neg (by omega), nth_append, if_neg (by omega), show a.length + i + 1 - a.length = i + 1 by omega, show a.length + i - a.length = i by omega] at this
    · have := h (a.length - 1) (by rw [List.length_append]; omega)
      rwa [nth_append, if_neg (by omega), nth_append, if_pos (by omega), show a.length - 1 + 1 - a.length = 0 by omega] at this
  · rintro ⟨h1, h2, h3⟩ i hi
    rw [List.length_append] at hi
    rw [nth_append, nth_append]
    rcases Nat.lt_trichotomy (i + 1) a.length with h | h | h
    · rw [if_pos h, if_pos (by omega)]; exact h1 i h
    · rw [if_neg (by omega), if_pos (by omega), show i + 1 - a.length = 0 by omega, show i = a.length - 1 by omega]; exact h3
    · rw [if_neg (by omega), if_neg (by omega), show i + 1 - a.length = (i - a.length) + 1 by omega]; exact h2 _ (by omega)

structure Strip (c : List Int) (n : Nat) : Prop where
  le : 2 * n ≤ c.length
  off : ∀ i, i < n → nth c i = -(nth c (c.length - 1 - i))
  stop : c.length < 2 * n + 2 ∨ nth c n ≠ -(nth c (c.length - 1 - n))
theorem Strip.unique {c : List Int} {m n : Nat} (h : Strip c m) (k : Strip c n) : m = n := by
  rcases Nat.lt_trichotomy m n with hh | hh | hh
  · have h1 := k.le
    rcases h.stop with h2 | h2
    · omega
    · exact absurd (k.off m hh) h2
  · exact hh
  · have h1 := h.le
    rcases k.stop with h2 | h2
    · omega
    · exact absurd (h.off n hh) h2
/-- A word several times. -/
def rep (d : List Int) (j : Nat) : List Int := (List.replicate j d).flatten
theorem act_cancel {s : List Int} (h : Rd s) (u : List Int) : act (act s (invL u)) u = s := by
  have := act_invL h (invL u)
  rwa [invL_invL] at this
theorem redL_cancel (a u b : List Int) : redL (a ++ invL u ++ (u ++ b)) = redL (a ++ b) := by
  have : act [] (a ++ invL u ++ (u ++ b)) = act [] (a ++ b) := by
    rw [act_append, act_append, act_append, act_cancel (act_rd rd_nil _), act_append]
  exact congrArg List.reverse this
/-- The element at a place around the word. -/
def cat (e : List Int) (i : Nat) : Int := nth e (i % e.length)
def Turns (e : List Int) (k : Nat) : Prop := ∀ i, cat e (i + k) = cat e i
theorem Turns.mul {e : List Int} {k : Nat} (h : Turns e k) (q : Nat) : Turns e (k * q) := by
  induction q with
  | zero => intro i; rfl
  | succ q ih => intro i; rw [Nat.mul_succ, ← Nat.add_assoc, h, ih]
def Cond (e : List Int) (k : Nat) : Prop := e.length % k = 0 ∧ e.drop (k % e.length) ++ e.take (k % e.length) = e
structure IsRoot (e : List Int) (k : Nat) : Prop where
  pos : 0 < k
  le : k ≤ e.length
  cond : Cond e k
  least : ∀ k', 0 < k' → k' < k → ¬ Cond e k'
theorem IsRoot.unique {e : List Int} {k k' : Nat} (h : IsRoot e k) (g : IsRoot e k') : k = k' := by
  rcases Nat.lt_trichotomy k k' with h1 | h1 | h1
  · exact absurd h.cond (g.least k h.pos h1)
  · exact h1
  · exact absurd g.cond (h.least k' g.pos h1)
end Go.Proofs.Ytnmklkjlcpgjmaa

namespace Go.Proofs.Ytnmklkjlcpgjmaa
open Go.RowKit Go.Sl

theorem nthr_set (X : List (List Int)) (i j : Nat) (r : List Int) : nthr (X.set i r) j = if i = j ∧ j < X.length then r else nthr X j := by
  unfold nthr
  rw [List.getD_eq_getElem?_getD, List.getD_eq_getElem?_getD, List.getElem?_set]
  by_cases h : i = j
  · subst h
    by_cases h2 : i < X.length
    · simp [h2]
    · simp [h2]
  · simp [h]
theorem ext_nthr {X Y : List (List Int)} (hl : X.length = Y.length) (h : ∀ j, j < X.length → nthr X j = nthr Y j) : X = Y := by
  refine List.ext_getElem hl fun j h1 h2 => ?_
  have := h j h1
  rwa [nthr_lt h1, nthr_lt h2] at this
theorem nthr_pos {X : List (List Int)} {i : Nat} (hi : i + 1 < X.length) (j : Nat) :
    nthr (stepA X ((i : Int) + 1)) j = if j = i + 1 then nthr X i else if j = i then redL (nthr X i ++ nthr X (i + 1) ++ invL (nthr X i)) else nthr X j := by
  have hn : ((i : Int) + 1).natAbs = i + 1 := by omega
  unfold stepA
  rw [if_pos (by omega), hn, Nat.add_sub_cancel, nthr_set, nthr_set, List.length_set]
  by_cases h : j = i + 1
  · subst h; simp [hi]
  · by_cases h2 : j = i
    · subst h2; simp [show j < X.length by omega]
    · simp [h, h2, Ne.symm h, Ne.symm h2]
theorem nthr_neg {X : List (List Int)} {i : Nat} (hi : i + 1 < X.length) (j : Nat) :
    nthr (stepA X (-((i : Int) + 1))) j = if j = i + 1 then redL (invL (nthr X (i + 1)) ++ nthr X i ++ nthr X (i + 1)) else if j = i then nthr X (i + 1) else nthr X j := by
  have hn : (-((i : Int) + 1)).natAbs = i + 1 := by omega
  unfold stepA
  rw [if_neg (by omega), hn, Nat.add_sub_cancel, nthr_set, nthr_set, List.length_set]
  by_cases h : j = i + 1
  · subst h; simp [hi]
  · by_cases h2 : j = i
    · subst h2; simp [show j < X.length by omega]
    · simp [h, h2, Ne.symm h, Ne.symm h2]

/-- All rows are reduced. -/
def RdA (X : List (List Int)) : Prop := ∀ j, Rd (nthr X j)
theorem rdA_set {X : List (List Int)} (h : RdA X) (i : Nat) {r : List Int} (hr : Rd r) : RdA (X.set i r) := fun j => by
  rw [nthr_set]; split
  · exact hr
  · exact h j
theorem rdA_step {X : List (List Int)} (h : RdA X) (c : Int) : RdA (stepA X c) := by
  unfold stepA
  split
  · exact rdA_set (rdA_set h _ (redL_rd _)) _ (h _)
  · exact rdA_set (rdA_set h _ (h _)) _ (redL_rd _)
theorem nthr_gens {n j : Nat} (hj : j < n) : nthr (gensA n) j = [(j : Int) + 1] := by
  rw [nthr_lt (by rw [gensA_length]; exact hj)]; simp [gensA]
theorem nthr_over {X : List (List Int)} {j : Nat} (h : X.length ≤ j) : nthr X j = [] := by simp [nthr, h]
theorem rdA_gens (n : Nat) : RdA (gensA n) := fun j => by
  by_cases h : j < n
  · rw [nthr_gens h]; trivial
  · rw [nthr_over (by rw [gensA_length]; omega)]; trivial
theorem rdA_fold (xs : List Int) : ∀ {X : List (List Int)}, RdA X → RdA (xs.foldl stepA X) := by
  induction xs with
  | nil => exact fun h => h
  | cons x t ih => exact fun h => ih (rdA_step h x)
theorem foldA_len (ys : List Int) : ∀ X : List (List Int), (ys.foldl stepA X).length = X.length := by
  induction ys with
  | nil => exact fun _ => rfl
  | cons y t ih => exact fun X => by rw [List.foldl_cons, ih, stepA_length]

theorem invL_append (a b : List Int) : invL (a ++ b) = invL b ++ invL a := by simp [invL]
theorem act_inv_redL {s : List Int} (h : Rd s) (p : List Int) : act s (invL (redL p)) = act s (invL p) := by
  have h1 : act (act s (invL p)) p = s := act_cancel h p
  have h2 : act (act s (invL p)) (redL p) = s := by rw [act_redL (act_rd h _), h1]
  have h3 := act_invL (act_rd h (invL p)) (redL p)
  rw [h2] at h3
  exact h3
theorem redL_eq {a b : List Int} (h : act [] a = act [] b) : redL a = redL b := congrArg List.reverse h
/-- x y x^-1, then back. -/
theorem conj_back (a : List Int) {b : List Int} (hb : Rd b) : redL (invL a ++ redL (a ++ b ++ invL a) ++ a) = b := by
  rw [← redL_of_rd hb]
  refine redL_eq ?_
  have h0 := rd_nil
  rw [act_append, act_append, act_redL (act_rd rd_nil _), act_append, act_append, act_cancel rd_nil, act_cancel (act_rd (by exact rd_nil) _)]
  rw [redL_of_rd hb]
theorem conj_forth (b : List Int) {a : List Int} (ha : Rd a) : redL (b ++ redL (invL b ++ a ++ b) ++ invL b) = a := by
  have h := conj_back (invL b) ha
  rwa [invL_invL] at h
theorem conj_conj (a b c : List Int) : redL (redL (a ++ b ++ invL a) ++ redL (a ++ c ++ invL a) ++ invL (redL (a ++ b ++ invL a))) = redL (a ++ redL (b ++ c ++ invL b) ++ invL a) := by
  refine redL_eq ?_
  have e : invL (a ++ b ++ invL a) = a ++ invL b ++ invL a := by rw [invL_append, invL_append, invL_invL, List.append_assoc]
  simp only [act_append]
  rw [act_redL rd_nil, act_redL (act_rd rd_nil _), act_inv_redL (act_rd (act_rd rd_nil _) _), e, act_redL (act_rd rd_nil _)]
  simp only [act_append]
  rw [act_cancel (act_rd (act_rd rd_nil _) _), act_cancel (act_rd (act_rd (act_rd rd_nil _) _) _)]

theorem step_pos_neg {X : List (List Int)} (h : RdA X) {i : Nat} (hi : i + 1 < X.length) : stepA (stepA X ((i : Int) + 1)) (-((i : Int) + 1)) = X := by
  refine ext_nthr (by rw [stepA_length, stepA_length]) fun j _ => ?_
  have hi' : i + 1 < (stepA X ((i : Int) + 1)).length := by rw [stepA_length]; exact hi
  rw [nthr_neg hi']
  simp only [nthr_pos hi]
  by_cases h1 : j = i + 1
  · subst h1; simp; simpa using conj_back (nthr X i) (h (i + 1))
  · by_cases h2 : j = i
    · subst h2; simp
    · simp [h1, h2]
theorem step_neg_pos {X : List (List Int)} (h : RdA X) {i : Nat} (hi : i + 1 < X.length) : stepA (stepA X (-((i : Int) + 1))) ((i : Int) + 1) = X := by
  refine ext_nthr (by rw [stepA_length, stepA_length]) fun j _ => ?_
  have hi' : i + 1 < (stepA X (-((i : Int) + 1))).length := by rw [stepA_length]; exact hi
  rw [nthr_pos hi']
  simp only [nthr_neg hi]
  by_cases h1 : j = i + 1
  · subst h1; simp
  · by_cases h2 : j = i
    · subst h2; simp; simpa using conj_forth (nthr X (j + 1)) (h j)
    · simp [h1, h2]
/-- A letter as a place and a sign. -/
theorem letter_cases {c : Int} {n : Nat} (h0 : c ≠ 0) (hn : c.natAbs < n) : ∃ i : Nat, i + 1 < n ∧ (c = (i : Int) + 1 ∨ c = -((i : Int) + 1)) := ⟨c.natAbs - 1, by omega, by omega⟩
theorem step_inv {X : List (List Int)} (h : RdA X) {c : Int} (h0 : c ≠ 0) (hn : c.natAbs < X.length) : stepA (stepA X c) (-c) = X := by
  obtain ⟨i, hi, rfl | rfl⟩ := letter_cases h0 hn
  · exact step_pos_neg h hi
  · rw [Int.neg_neg]; exact step_neg_pos h hi
theorem braid_step {X : List (List Int)} {i : Nat} (hi : i + 2 < X.length) :
    stepA (stepA (stepA X ((i : Int) + 1)) (((i + 1 : Nat) : Int) + 1)) ((i : Int) + 1) = stepA (stepA (stepA X (((i + 1 : Nat) : Int) + 1)) ((i : Int) + 1)) (((i + 1 : Nat) : Int) + 1) := by
  obtain ⟨A, hA⟩ : ∃ A, A = stepA X ((i : Int) + 1) := ⟨_, rfl⟩
  obtain ⟨B, hB⟩ : ∃ B, B = stepA A (((i + 1 : Nat) : Int) + 1) := ⟨_, rfl⟩
  obtain ⟨C, hC⟩ : ∃ C, C = stepA X (((i + 1 : Nat) : Int) + 1) := ⟨_, rfl⟩
  obtain ⟨D, hD⟩ : ∃ D, D = stepA C ((i : Int) + 1) := ⟨_, rfl⟩
  have la : A.length = X.length := by rw [hA, stepA_length]
  have lb : B.length = X.length := by rw [hB, stepA_length, la]
  have lc : C.length = X.length := by rw [hC, stepA_length]
  have ld : D.length = X.length := by rw [hD, stepA_length, lc]
  have ha := fun j => nthr_pos (X := X) (i := i) (by omega) j
  simp only [← hA] at ha
  have hb := fun j => nthr_pos (X := A) (i := i + 1) (by omega) j
  simp only [← hB] at hb
  have hc := fun j => nthr_pos (X := X) (i := i + 1) (by omega) j
  simp only [← hC] at hc
  have hd := fun j => nthr_pos (X := C) (i := i) (by omega) j
  simp only [← hD] at hd
  rw [← hA, ← hB, ← hC, ← hD]
  refine ext_nthr (by simp only [stepA_length, lb, ld]) fun j _ => ?_
  rw [nthr_pos (X := B) (by omega), nthr_pos (X := D) (i := i + 1) (by omega)]
  clear hA hB hC hD
  have n1 : i ≠ i + 1 + 1 := by omega
  have n2 : i + 1 + 1 ≠ i := by omega
  by_cases h1 : j = i
  · subst h1
    simp only [hb, ha, hd, hc, if_pos, n1, n2, if_false, Nat.succ_ne_self, Nat.left_eq_add]
    exact conj_conj (nthr X j) (nthr X (j + 1)) (nthr X (j + 2))
  · by_cases h2 : j = i + 1
    · subst h2; simp [hb, ha, hd, hc, n1, n2]
    · by_cases h3 : j = i + 2
      · subst h3; simp [hb, ha, hd, hc, n1]
      · simp [hb, ha, hd, hc, h1, h2, h3]
theorem far_step {X : List (List Int)} {c d : Int} (hc : c ≠ 0) (hd : d ≠ 0) (hcl : c.natAbs < X.length) (hdl : d.natAbs < X.length) (hf : c.natAbs + 2 ≤ d.natAbs ∨ d.natAbs + 2 ≤ c.natAbs) : stepA (stepA X c) d = stepA (stepA X d) c := by
  obtain ⟨i, hi, ec⟩ := letter_cases hc hcl
  obtain ⟨k, hk, ed⟩ := letter_cases hd hdl
  have hik : i + 2 ≤ k ∨ k + 2 ≤ i := by omega
  have n1 : k ≠ i := by omega
  have n2 : k ≠ i + 1 := by omega
  have n3 : k + 1 ≠ i := by omega
  have n4 : i ≠ k := by omega
  have n5 : i + 1 ≠ k := by omega
  have n6 : i ≠ k + 1 := by omega
  refine ext_nthr (by simp only [stepA_length]) fun j _ => ?_
  rcases ec with rfl | rfl <;> rcases ed with rfl | rfl <;>
    simp only [nthr_pos (X := stepA X _) (i := k) (by simp only [stepA_length]; omega), nthr_neg (X := stepA X _) (i := k) (by simp only [stepA_length]; omega), nthr_pos (X := stepA X _) (i := i) (by simp only [stepA_length]; omega), nthr_neg (X := stepA X _) (i := i) (by simp only [stepA_length]; omega), nthr_pos (X := X) (i := k) (by omega), nthr_neg (X := X) (i := k) (by omega), nthr_pos (X := X) (i := i) (by omega), nthr_neg (X := X) (i := i) (by omega)] <;>
    (by_cases h1 : j = i
     · subst h1; simp [n4, n5, n6]
     · by_cases h2 : j = i + 1
       · subst h2; simp [n4, n5, n6]
       · by_cases h3 : j = k
         · subst h3; simp [n1, n2, n3]
         · by_cases h4 : j = k + 1
           · subst h4; simp [n1, n2, n3]
           · simp [h1, h2, h3, h4])

end Go.Proofs.Ytnmklkjlcpgjmaa

namespace Go.Proofs.Ytnmklkjlcpgjmaa
open Go.RowKit Go.Sl

abbrev St := Int × List (List Int)
inductive Eqv (n : Nat) : St → St → Prop
  | refl (s : St) : Eqv n s s
  | symm {s t : St} (h : Eqv n s t) : Eqv n t s
  | trans {s t u : St} (h : Eqv n s t) (k : Eqv n t u) : Eqv n s u
  | step (k : Int) {F G : List (List Int)} (g : Good n F) (h : Step n F G) : Eqv n (k, F) (k, G)
  | trail (k : Int) {F : List (List Int)} (g : Good n F) : Eqv n (k, F ++ [iota n]) (k, F)
  | half (k : Int) {F : List (List Int)} (g : Good n F) : Eqv n (k, hf n :: F) (k + 1, F)

section
variable {n : Nat}
theorem good_one (_hn : n ≤ 1000) {a : List Int} (h : Pn n a) : Good n [a] := .cons h (good_nil n)
theorem eqv_reach {F G : List (List Int)} (k : Int) (h : Reach n F G) : Good n F → Eqv n (k, F) (k, G) := by
  induction h with
  | refl F => exact fun _ => .refl _
  | head h _ ih => exact fun g => .trans (.step k g h) (ih (h.good g))
theorem eqv_good (hn : n ≤ 1000) {s t : St} (h : Eqv n s t) : Good n s.2 ↔ Good n t.2 := by
  induction h with
  | refl => exact Iff.rfl
  | symm _ ih => exact ih.symm
  | trans _ _ ih1 ih2 => exact ih1.trans ih2
  | step k g h => exact ⟨fun _ => h.good g, fun _ => g⟩
  | trail k g => exact ⟨fun _ => g, fun _ => g.app (good_one hn (pn_iota hn))⟩
  | half k g => exact ⟨fun _ => g, fun _ => .cons (pn_hf hn) g⟩

/-- Without half twists and identities. -/
def strip (n : Nat) (k : Int) (T : List (List Int)) : St := (k + T.count (hf n), T.filter fun p => decide (p ≠ hf n ∧ p ≠ iota n))
def Cn (n : Nat) (s c : St) : Prop := Good n s.2 ∧ ∃ T, Reach n s.2 T ∧ Tight n T ∧ c = strip n s.1 T
theorem cn_exists {s : St} (g : Good n s.2) : ∃ c, Cn n s c := by
  obtain ⟨T, h, t⟩ := exists_tight (n := n) _ s.2 (Nat.le_refl _) g
  exact ⟨_, g, T, h, t, rfl⟩
theorem cn_unique {s c d : St} (h : Cn n s c) (k : Cn n s d) : c = d := by
  obtain ⟨g, T, h1, h2, rfl⟩ := h
  obtain ⟨_, S, k1, k2, rfl⟩ := k
  rw [unique _ _ (Nat.le_refl _) g T S h1 h2 k1 k2]
theorem hf_ne_iota (h2 : 2 ≤ n) : hf n ≠ iota n := fun e => by
  have := congrArg (fun l => nth l 0) e
  rw [nth_hf (by omega), nth_iota _ _ (by omega)] at this
  omega
theorem strip_iota (h2 : 2 ≤ n) (k : Int) (T : List (List Int)) : strip n k (T ++ [iota n]) = strip n k T := by
  unfold strip
  have h1 : (T ++ [iota n]).count (hf n) = T.count (hf n) := by
    rw [List.count_append, List.count_cons_of_ne (fun e => hf_ne_iota h2 e.symm)]; simp
  rw [h1, List.filter_append]
  simp
theorem strip_hf (k : Int) (T : List (List Int)) : strip n k (hf n :: T) = strip n (k + 1) T := by
  unfold strip
  rw [List.count_cons_self, List.filter_cons]
  simp; omega
theorem eqv_cn (hn : n ≤ 1000) (h2 : 2 ≤ n) {s t : St} (h : Eqv n s t) : ∀ c, Cn n s c ↔ Cn n t c := by
  induction h with
  | refl => exact fun _ => Iff.rfl
  | symm _ ih => exact fun c => (ih c).symm
  | trans _ _ ih1 ih2 => exact fun c => (ih1 c).trans (ih2 c)
  | step k g h =>
    intro c
    constructor
    · rintro ⟨_, T, r, t, e⟩; exact ⟨h.good g, T, same_end g (.one h) r t, t, e⟩
    · rintro ⟨_, T, r, t, e⟩; exact ⟨g, T, .head h r, t, e⟩
  | trail k g =>
    rename_i F
    intro c
    obtain ⟨T, r, t⟩ := exists_tight (n := n) _ F (Nat.le_refl _) g
    have g' := g.app (good_one hn (pn_iota hn))
    have c1 : Cn n (k, F) (strip n k T) := ⟨g, T, r, t, rfl⟩
    have c2 : Cn n (k, F ++ [iota n]) (strip n k T) := ⟨g', T ++ [iota n], r.post _, tight_iota t, (strip_iota h2 k T).symm⟩
    exact ⟨fun h => by rw [cn_unique h c2]; exact c1, fun h => by rw [cn_unique h c1]; exact c2⟩
  | half k g =>
    rename_i F
    intro c
    obtain ⟨T, r, t⟩ := exists_tight (n := n) _ F (Nat.le_refl _) g
    have c1 : Cn n (k + 1, F) (strip n (k + 1) T) := ⟨g, T, r, t, rfl⟩
    have c2 : Cn n (k, hf n :: F) (strip n (k + 1) T) := ⟨.cons (pn_hf hn) g, hf n :: T, r.cons _, tight_hf hn t, (strip_hf k T).symm⟩
    exact ⟨fun h => by rw [cn_unique h c2]; exact c1, fun h => by rw [cn_unique h c1]; exact c2⟩

/-! A tight sequence begins with its half twists, and ends with its identities. -/
theorem tight_lead (hn : n ≤ 1000) {a : List Int} {T : List (List Int)} (g : Good n (a :: T)) (t : Tight n (a :: T)) (h : a ≠ hf n) : hf n ∉ T := by
  induction T generalizing a with
  | nil => simp
  | cons b T ih =>
    have hb : b ≠ hf n := fun e => by
      subst e
      exact h (hf_of hn g.hd fun i hi => t.pair i hi (dn_hf hi))
    intro hm
    rcases List.mem_cons.1 hm with hm | hm
    · exact hb hm.symm
    · exact ih g.tl t.tl hb hm
theorem tight_last (hn : n ≤ 1000) {T : List (List Int)} (g : Good n (iota n :: T)) (t : Tight n (iota n :: T)) : T = List.replicate T.length (iota n) := by
  induction T with
  | nil => rfl
  | cons b T ih =>
    have hb : b = iota n := by
      refine iota_of g.tl.hd fun i hi => ?_
      have : ¬ dn b i := fun hd => t.pair i hi hd (up_iota hn hi)
      -- no crossing at the beginning: none at all
      exact Classical.byContradiction fun hu => by
        have hall : ∀ i, i + 1 < n → up (backL b) i := fun i hi => by
          unfold up
          rw [back_back g.tl.hd]
          exact (dn_or g.tl.hd hi).resolve_left (fun hd => t.pair i hi hd (up_iota hn hi))
        have e := iota_of g.tl.hd.back hall
        unfold up at hu
        rw [e, nth_iota _ _ hi, nth_iota _ _ (by omega)] at hu
        omega
    subst hb
    have := ih g.tl t.tl
    rw [List.length_cons, List.replicate_succ, ← this]
theorem eqv_iotas {F : List (List Int)} (hn : n ≤ 1000) (g : Good n F) (k : Int) : ∀ m, Eqv n (k, F ++ List.replicate m (iota n)) (k, F) := by
  intro m
  induction m with
  | zero => simp; exact .refl _
  | succ m ih =>
    rw [List.replicate_succ', ← List.append_assoc]
    refine .trans (.trail k (g.app fun x hx => ?_)) ih
    rw [List.eq_of_mem_replicate hx]; exact pn_iota hn
theorem tight_ones (hn : n ≤ 1000) : ∀ T : List (List Int), Good n T → Tight n T → ∃ U m, T = U ++ List.replicate m (iota n) ∧ iota n ∉ U := by
  intro T
  induction T with
  | nil => intro _ _; exact ⟨[], 0, rfl, by simp⟩
  | cons a T ih =>
    intro g t
    by_cases e : a = iota n
    · subst e
      have := tight_last hn g t
      exact ⟨[], T.length + 1, by rw [List.nil_append, List.replicate_succ, ← this], by simp⟩
    · obtain ⟨U, m, h1, h2⟩ := ih g.tl t.tl
      exact ⟨a :: U, m, by rw [h1]; rfl, fun hm => by
        rcases List.mem_cons.1 hm with h | h
        · exact e h.symm
        · exact h2 h⟩
theorem eqv_strip (hn : n ≤ 1000) (_h2 : 2 ≤ n) : ∀ (T : List (List Int)) (k : Int), Good n T → Tight n T → Eqv n (k, T) (strip n k T) := by
  intro T
  induction T with
  | nil => intro k _ _; unfold strip; simp; exact .refl _
  | cons a T ih =>
    intro k g t
    by_cases e : a = hf n
    · subst e
      rw [strip_hf]
      exact .trans (.half k g.tl) (ih (k + 1) g.tl t.tl)
    · have hno := tight_lead hn g t e
      obtain ⟨U, m, h1, h3⟩ := tight_ones hn (a :: T) g t
      have hc : (a :: T).count (hf n) = 0 := List.count_eq_zero.2 (fun hm => by
        rcases List.mem_cons.1 hm with h | h
        · exact e h.symm
        · exact hno h)
      have hU : Good n U := fun x hx => g x (by rw [h1]; simp [hx])
      have hf' : (a :: T).filter (fun p => decide (p ≠ hf n ∧ p ≠ iota n)) = U := by
        rw [h1, List.filter_append, List.filter_eq_self.2, List.filter_eq_nil_iff.2, List.append_nil]
        · intro x hx
          rw [List.eq_of_mem_replicate hx]; simp
        · intro x hx
          simp only [decide_eq_true_eq]
          refine ⟨fun hx2 => ?_, fun hx2 => h3 (hx2 ▸ hx)⟩
          have : x ∈ a :: T := by rw [h1]; simp [hx]
          rw [hx2] at this
          exact (List.count_eq_zero.1 hc) this
      unfold strip
      rw [hc, hf', h1]
      have := eqv_iotas hn hU k m
      simpa using this
theorem cn_eqv (hn : n ≤ 1000) (h2 : 2 ≤ n) {s c : St} (h : Cn n s c) : Eqv n s c := by
  obtain ⟨g, T, r, t, rfl⟩ := h
  exact .trans (eqv_reach s.1 r g) (eqv_strip hn h2 T s.1 (r.good g) t)

/-! Letters. -/
def dgP (n i : Nat) : List Int := swapV (hf n) i
theorem pn_dg {i : Nat} (hn : n ≤ 1000) (hi : i + 1 < n) : Pn n (dgP n i) := (pn_hf hn).swapV hi
def mulS (n : Nat) (s : St) (x : Int) : St := if 0 < x then (s.1, s.2 ++ [sgP n (x.natAbs - 1)]) else (s.1 - 1, s.2.map (turnP n) ++ [dgP n (x.natAbs - 1)])
/-- A letter of n strands. -/
def Lt (n : Nat) (x : Int) : Prop := x ≠ 0 ∧ x.natAbs < n
theorem mulS_good (hn : n ≤ 1000) {s : St} {x : Int} (hx : Lt n x) (g : Good n s.2) : Good n (mulS n s x).2 := by
  obtain ⟨h0, h1⟩ := hx
  unfold mulS
  split
  · exact g.app (good_one hn (pn_sg hn (by omega)))
  · exact (good_turn g).app (good_one hn (pn_dg hn (by omega)))
theorem eqv_mul (hn : n ≤ 1000) {x : Int} (hx : Lt n x) {s t : St} (h : Eqv n s t) : Eqv n (mulS n s x) (mulS n t x) := by
  obtain ⟨h0, h1⟩ := hx
  have hi : x.natAbs - 1 + 1 < n := by omega
  induction h with
  | refl => exact .refl _
  | symm _ ih => exact .symm ih
  | trans _ _ ih1 ih2 => exact .trans ih1 ih2
  | step k g h =>
    unfold mulS
    split
    · exact .step k (g.app (good_one hn (pn_sg hn hi))) (h.post _)
    · exact .step _ ((good_turn g).app (good_one hn (pn_dg hn hi))) ((step_turn h g).post _)
  | trail k g =>
    rename_i F
    have go : ∀ (k : Int) {F : List (List Int)} (d : List Int), Good n F → Pn n d → Eqv n (k, F ++ [iota n] ++ [d]) (k, F ++ [d]) := by
      intro k F d g hd
      have r : Reach n ([iota n] ++ [d]) ([d] ++ [iota n]) := by
        have := rp hn (pn_iota hn) d hd (by rw [iota_then hd, inv_iota]; omega)
        rwa [iota_then hd] at this
      have r2 := r.pre F
      rw [← List.append_assoc, ← List.append_assoc] at r2
      exact .trans (eqv_reach k r2 ((g.app (good_one hn (pn_iota hn))).app (good_one hn hd))) (.trail k (g.app (good_one hn hd)))
    unfold mulS
    split
    · exact go k _ g (pn_sg hn hi)
    · simp only [List.map_append, List.map_cons, List.map_nil, turn_iota]
      exact go _ _ (good_turn g) (pn_dg hn hi)
  | half k g =>
    unfold mulS
    split
    · exact .half k (g.app (good_one hn (pn_sg hn hi)))
    · simp only [List.map_cons, turn_hf, List.cons_append]
      have := Eqv.half (n := n) (k - 1) ((good_turn g).app (good_one hn (pn_dg hn hi)))
      rwa [show k - 1 + 1 = k + 1 - 1 by omega] at this
def mulW (n : Nat) (s : St) (w : List Int) : St := w.foldl (mulS n) s
theorem mulW_append (s : St) (a b : List Int) : mulW n s (a ++ b) = mulW n (mulW n s a) b := by unfold mulW; rw [List.foldl_append]
theorem mulW_good (hn : n ≤ 1000) (w : List Int) : ∀ s : St, (∀ x ∈ w, Lt n x) → Good n s.2 → Good n (mulW n s w).2 := by
  induction w with
  | nil => exact fun _ _ g => g
  | cons x w ih => exact fun s h g => ih _ (fun y hy => h y (by simp [hy])) (mulS_good hn (h x (by simp)) g)
theorem eqv_mulW (hn : n ≤ 1000) (w : List Int) : ∀ {s t : St}, (∀ x ∈ w, Lt n x) → Eqv n s t → Eqv n (mulW n s w) (mulW n t w) := by
  induction w with
  | nil => exact fun _ h => h
  | cons x w ih => exact fun h k => ih (fun y hy => h y (by simp [hy])) (eqv_mul hn (h x (by simp)) k)

/-- A letter and its inverse. -/
theorem swapAt_hf {j : Nat} (hn : n ≤ 1000) (hj : j + 1 < n) : swapAt (hf n) j = swapV (hf n) (n - 2 - j) := by
  refine ext_nth (by simp [swapAt_length, swapV_length]) fun q hq => ?_
  rw [swapAt_length, hf_length] at hq
  rw [nsw (pn_hf hn) hj, nth_hf (swN_lt hj hq), nth_swapV _ _ _ (by rw [hf_length]; exact hq), nth_hf hq]
  unfold swN swV; grind
theorem half_end (hn : n ≤ 1000) {F : List (List Int)} (g : Good n F) (k : Int) : Eqv n (k, F ++ [hf n]) (k + 1, F.map (turnP n)) :=
  .trans (eqv_reach k (half_front hn F g) (g.app (good_one hn (pn_hf hn)))) (.half k (good_turn g))
theorem cancel (hn : n ≤ 1000) {x : Int} (hx : Lt n x) {s : St} (g : Good n s.2) : Eqv n (mulS n (mulS n s x) (-x)) s := by
  obtain ⟨h0, h1⟩ := hx
  obtain ⟨k, F⟩ := s
  have hi : x.natAbs - 1 + 1 < n := by omega
  have hit : n - 2 - (x.natAbs - 1) + 1 < n := by omega
  have gt := good_turn g
  have fin : Eqv n (k - 1, F.map (turnP n) ++ [hf n]) (k, F) := by
    have := half_end hn gt (k - 1)
    rwa [map_turn_turn g, show k - 1 + 1 = k by omega] at this
  have inA : ∀ {A : List (List Int)}, Good n A → Reach n A [hf n, iota n] → Eqv n (k - 1, F.map (turnP n) ++ A) (k, F) := by
    intro A gA r
    have r2 := r.pre (F.map (turnP n))
    refine .trans (eqv_reach (k - 1) r2 (gt.app gA)) ?_
    have : F.map (turnP n) ++ [hf n, iota n] = F.map (turnP n) ++ [hf n] ++ [iota n] := by simp
    rw [this]
    exact .trans (.trail _ (gt.app (good_one hn (pn_hf hn)))) fin
  by_cases hp : 0 < x
  · unfold mulS
    rw [if_pos hp, if_neg (by omega), Int.natAbs_neg]
    simp only [List.map_append, List.map_cons, List.map_nil, List.append_assoc, List.cons_append, List.nil_append]
    have ht : turnP n (sgP n (x.natAbs - 1)) = sgP n (n - 2 - (x.natAbs - 1)) := by
      unfold sgP; rw [turn_swapV (pn_iota hn) hi, turn_iota]
    rw [ht]
    have e1 : thenL (sgP n (n - 2 - (x.natAbs - 1))) (dgP n (x.natAbs - 1)) = hf n := by
      unfold dgP
      rw [thenL_swapV (pn_sg hn hit) (pn_hf hn)]
      have e2 : thenL (sgP n (n - 2 - (x.natAbs - 1))) (hf n) = swapV (hf n) (x.natAbs - 1) := by
        unfold sgP
        have h3 := thenL_swap (pn_iota hn) ((pn_hf hn).swapAt hit) hit
        rw [swapAt_swapAt _ _ (by rw [hf_length]; exact hit), iota_then ((pn_hf hn).swapAt hit), swapAt_hf hn hit] at h3
        rw [h3, show n - 2 - (n - 2 - (x.natAbs - 1)) = x.natAbs - 1 by omega]
      rw [e2, swapV_swapV]
    have r := rp hn (pn_sg hn hit) (dgP n (x.natAbs - 1)) (pn_dg hn hi) (by
      rw [e1, inv_sg hn hit]
      have := inv_hf_up hn hi
      unfold dgP; omega)
    rw [e1] at r
    exact inA (.cons (pn_sg hn hit) (good_one hn (pn_dg hn hi))) r
  · unfold mulS
    rw [if_neg hp, if_pos (by omega), Int.natAbs_neg]
    simp only [List.append_assoc, List.cons_append, List.nil_append]
    have r : Reach n [dgP n (x.natAbs - 1), sgP n (x.natAbs - 1)] [hf n, iota n] := by
      have hu : up (dgP n (x.natAbs - 1)) (x.natAbs - 1) := up_swapV (pn_hf hn) hi ((up_or (pn_hf hn) hi).resolve_left (not_up_hf hn hi))
      have := Step.here (n := n) (b := sgP n (x.natAbs - 1)) [] hi hu (dn_sg hi)
      rw [swapAt_sg hi] at this
      unfold dgP at this ⊢
      rw [swapV_swapV] at this
      exact .one this
    exact inA (.cons (pn_dg hn hi) (good_one hn (pn_sg hn hi))) r
theorem cancel' (hn : n ≤ 1000) {x : Int} (hx : Lt n x) {s : St} (g : Good n s.2) : Eqv n (mulS n (mulS n s (-x)) x) s := by
  have := cancel hn (x := -x) ⟨by have := hx.1; omega, by rw [Int.natAbs_neg]; exact hx.2⟩ g
  rwa [Int.neg_neg] at this

/-- A crossing added to a factor. -/
theorem add_one (_hn : n ≤ 1000) {a : List Int} {i : Nat} (_ha : Pn n a) (hi : i + 1 < n) (hu : up a i) : Reach n [a, sgP n i] [swapV a i, iota n] := by
  have := Step.here (n := n) (b := sgP n i) [] hi hu (dn_sg hi)
  rw [swapAt_sg hi] at this
  exact .one this
/-- Positive letters that are far apart. -/
theorem far_mul (hn : n ≤ 1000) {i j : Nat} (hi : i + 1 < n) (hj : j + 1 < n) (h : i + 1 < j ∨ j + 1 < i) {s : St} (g : Good n s.2) :
    Eqv n (mulW n s [(i : Int) + 1, (j : Int) + 1]) (mulW n s [(j : Int) + 1, (i : Int) + 1]) := by
  have one : ∀ i j : Nat, i + 1 < n → j + 1 < n → (i + 1 < j ∨ j + 1 < i) → Eqv n (mulW n s [(i : Int) + 1, (j : Int) + 1]) (s.1, s.2 ++ [swapV (sgP n i) j] ++ [iota n]) := by
    intro i j hi hj h
    have e1 : ((i : Int) + 1).natAbs - 1 = i := by omega
    have e2 : ((j : Int) + 1).natAbs - 1 = j := by omega
    simp only [mulW, List.foldl_cons, List.foldl_nil, mulS, e1, e2]
    rw [if_pos (by omega), if_pos (by omega)]
    have hu : up (sgP n i) j := (up_far (pn_iota hn) hi h).2 (up_iota hn hj)
    have r := (add_one hn (pn_sg hn hi) hj hu).pre s.2
    have := eqv_reach s.1 r (g.app (.cons (pn_sg hn hi) (good_one hn (pn_sg hn hj))))
    simpa using this
  refine .trans (one i j hi hj h) (.symm (.trans (one j i hj hi h.symm) ?_))
  unfold sgP
  rw [swapV_far h]
  exact .refl _
/-- Positive letters of neighbours. -/
theorem braid_mul (hn : n ≤ 1000) {i : Nat} (hi : i + 1 + 1 < n) {s : St} (g : Good n s.2) :
    Eqv n (mulW n s [(i : Int) + 1, (i : Int) + 1 + 1, (i : Int) + 1]) (mulW n s [(i : Int) + 1 + 1, (i : Int) + 1, (i : Int) + 1 + 1]) := by
  have h0 : i + 1 < n := by omega
  have hp := pn_iota hn
  obtain ⟨u1, u2, u3, u4⟩ := up_next hp hi (up_iota hn h0) (up_iota hn hi)
  have three : ∀ i j : Nat, i + 1 < n → j + 1 < n → up (sgP n i) j → up (swapV (sgP n i) j) i →
      Eqv n (mulW n s [(i : Int) + 1, (j : Int) + 1, (i : Int) + 1]) (s.1, s.2 ++ [swapV (swapV (sgP n i) j) i, iota n, iota n]) := by
    intro i j hi hj hu hu2
    have e1 : ((i : Int) + 1).natAbs - 1 = i := by omega
    have e2 : ((j : Int) + 1).natAbs - 1 = j := by omega
    simp only [mulW, List.foldl_cons, List.foldl_nil, mulS, e1, e2]
    rw [if_pos (by omega), if_pos (by omega)]
    have ps := pn_sg hn hi
    have r1 : Reach n [sgP n i, sgP n j, sgP n i] [swapV (sgP n i) j, iota n, sgP n i] := (add_one hn ps hj hu).post [sgP n i]
    have r2 : Reach n [swapV (sgP n i) j, iota n, sgP n i] [swapV (sgP n i) j, sgP n i, iota n] := by
      have := (rp hn hp (sgP n i) ps (by rw [iota_then ps, inv_iota]; omega)).cons (swapV (sgP n i) j)
      rwa [iota_then ps] at this
    have r3 : Reach n [swapV (sgP n i) j, sgP n i, iota n] [swapV (swapV (sgP n i) j) i, iota n, iota n] := (add_one hn (ps.swapV hj) hi hu2).post [iota n]
    have := eqv_reach s.1 ((r1.trans (r2.trans r3)).pre s.2) (g.app (.cons ps (.cons (pn_sg hn hj) (good_one hn ps))))
    simpa using this
  have c1 := three i (i + 1) h0 hi u1 u2
  have c2 := three (i + 1) i hi h0 u3 u4
  rw [show ((i + 1 : Nat) : Int) = (i : Int) + 1 by omega] at c1 c2
  refine .trans c1 (.symm (.trans c2 ?_))
  unfold sgP
  rw [← swapV_braid]
  exact .refl _
end

end Go.Proofs.Ytnmklkjlcpgjmaa

namespace Go.Proofs.Ytnmklkjlcpgjmaa
open Go.RowKit Go.Sl

section
variable {n : Nat} {a b c d g : List Int}
theorem left_at (_ha : Pn n a) (hg : Pn n g) (e : thenL g a = hf n) {q : Nat} (hq : q < n) : nth a (nth g q).toNat = (n : Int) - 1 - q := by
  have := congrArg (fun l => nth l q) e
  rwa [nth_thenL _ _ _ (by rw [hg.len]; exact hq), nth_hf hq] at this
theorem left_nth (ha : Pn n a) (hg : Pn n g) (e : thenL g a = hf n) {q : Nat} (hq : q < n) : nth g q = nth (backL a) (n - 1 - q) := by
  have h1 := left_at ha hg e hq
  have hr := hg.range hq
  have h2 := back_at ha (q := (nth g q).toNat) (by omega)
  rw [h1, show ((n : Int) - 1 - q).toNat = n - 1 - q by omega] at h2
  rw [h2]; omega
theorem left_back (ha : Pn n a) (hg : Pn n g) (e : thenL g a = hf n) {x : Nat} (hx : x < n) : nth (backL g) x = (n : Int) - 1 - nth a x := by
  obtain ⟨q, hq, e1, e2⟩ := hit hg hx
  have h1 := left_at ha hg e hq
  rw [e1, Int.toNat_natCast] at h1
  rw [e2, h1]; omega
theorem left_dn (ha : Pn n a) (hg : Pn n g) (e : thenL g a = hf n) {i : Nat} (hi : i + 1 < n) : dn g i ↔ up a (n - 2 - i) := by
  unfold dn up
  rw [left_nth ha hg e hi, left_nth ha hg e (show i < n by omega), show n - 1 - (i + 1) = n - 2 - i by omega, show n - 1 - i = n - 2 - i + 1 by omega]
theorem left_up (ha : Pn n a) (hg : Pn n g) (e : thenL g a = hf n) {i : Nat} (hi : i + 1 < n) : up g i ↔ dn a i := by
  unfold dn up
  rw [left_back ha hg e hi, left_back ha hg e (show i < n by omega)]; omega
theorem left_exists (hn : n ≤ 1000) (ha : Pn n a) : ∃ g, Pn n g ∧ thenL g a = hf n ∧ inv g + inv a = inv (hf n) := by
  obtain ⟨g, hg, e, hi⟩ := compl hn (turnP n a) (pn_turn ha)
  have h1 := compl_turn (pn_turn ha) hg e
  rw [turn_turn ha] at h1
  rw [inv_turn hn a ha] at hi
  exact ⟨g, hg, h1, by omega⟩
theorem tight_snoc : ∀ (X : List (List Int)), Tight n (X ++ [c]) → (∀ i, i + 1 < n → dn d i → ¬ up c i) → Tight n (X ++ [c, d])
  | [], _, k => tight_cons (tight_one d) k
  | [_x], h, k => tight_cons (tight_snoc [] h.tl k) h.pair
  | _x :: y :: X, h, k => tight_cons (tight_snoc (y :: X) h.tl k) h.pair
theorem tight_turn {F : List (List Int)} (g : Good n F) (t : Tight n F) : Tight n (F.map (turnP n)) := fun G s => by
  have h1 := step_turn s (good_turn g)
  rw [map_turn_turn g] at h1
  exact t _ h1
theorem turn_mem {F : List (List Int)} (g : Good n F) {x : List Int} (hx : turnP n x = x) (h : x ∉ F) : x ∉ F.map (turnP n) := fun hm => by
  obtain ⟨y, hy, e⟩ := List.mem_map.1 hm
  have h1 := turn_turn (g y hy)
  rw [e, hx] at h1
  exact h (h1 ▸ hy)

theorem iota_end (hn : n ≤ 1000) : ∀ F : List (List Int), Good n F → Reach n (iota n :: F) (F ++ [iota n])
  | [], _ => .refl _
  | a :: F, gd => by
    have r := rp hn (pn_iota hn) a gd.hd (by rw [iota_then gd.hd, inv_iota]; omega)
    rw [iota_then gd.hd] at r
    exact (r.post F).trans ((iota_end hn F gd.tl).cons a)

theorem inv_exists (hn : n ≤ 1000) (h2 : 2 ≤ n) : ∀ F : List (List Int), Good n F → Tight n F → hf n ∉ F → iota n ∉ F →
    ∃ B : List (List Int), B.length = F.length ∧ Good n B ∧ Tight n B ∧ hf n ∉ B ∧ iota n ∉ B ∧ Eqv n (-(F.length : Int), B ++ F) (0, []) ∧ ∀ a F', F = a :: F' → ∃ B' g, B = B' ++ [g] ∧ Pn n g ∧ thenL g a = hf n := by
  intro F
  induction F with
  | nil => intro _ _ _ _; exact ⟨[], rfl, good_nil n, tight_nil, by simp, by simp, .refl _, fun a F' e => by cases e⟩
  | cons a F ih =>
    intro gd t nh ni
    obtain ⟨B, bl, bg, bt, bh, bi, be, bs⟩ := ih gd.tl t.tl (fun h => nh (List.mem_cons_of_mem _ h)) (fun h => ni (List.mem_cons_of_mem _ h))
    obtain ⟨g, hg, e, hinv⟩ := left_exists hn gd.hd
    have gh : g ≠ hf n := fun e1 => by
      subst e1
      refine ni ?_
      have : a = iota n := iota_of gd.hd fun i hi => ?_
      · rw [this]; simp
      · have := (left_dn gd.hd (pn_hf hn) e (i := n - 2 - i) (by omega)).1 (dn_hf (by omega))
        rwa [show n - 2 - (n - 2 - i) = i by omega] at this
    have gi : g ≠ iota n := fun e1 => by
      subst e1
      rw [iota_then gd.hd] at e
      exact nh (by rw [e]; simp)
    have gB := good_turn bg
    refine ⟨B.map (turnP n) ++ [g], by simp [bl], gB.app (good_one hn hg), ?_, ?_, ?_, ?_, fun a' F' e' => ⟨B.map (turnP n), g, rfl, hg, by cases e'; exact e⟩⟩
    · cases F with
      | nil =>
        have : B = [] := List.eq_nil_of_length_eq_zero bl
        subst this
        exact tight_one g
      | cons b F' =>
        obtain ⟨B', gb, rfl, hgb, eb⟩ := bs b F' rfl
        rw [List.map_append, List.append_assoc]
        have ht := tight_turn bg bt
        rw [List.map_append] at ht
        refine tight_snoc _ ht fun i hi hd hu => ?_
        rw [up_turn hgb hi, left_up gd.tl.hd hgb eb (by omega)] at hu
        rw [left_dn gd.hd hg e hi] at hd
        exact t.pair (n - 2 - i) (by omega) hu hd
    · intro hm
      rcases List.mem_append.1 hm with h | h
      · exact turn_mem bg turn_hf bh h
      · simp at h; exact gh h.symm
    · intro hm
      rcases List.mem_append.1 hm with h | h
      · exact turn_mem bg turn_iota bi h
      · simp at h; exact gi h.symm
    · have r1 : Reach n [g, a] [hf n, iota n] := by
        have := rp hn hg a gd.hd (by rw [e]; omega)
        rwa [e] at this
      have r2 : Reach n (iota n :: F) (F ++ [iota n]) := iota_end hn F gd.tl
      have hG : Good n (B.map (turnP n) ++ (g :: a :: F)) := gB.app (.cons hg gd)
      have s1 : Reach n (B.map (turnP n) ++ (g :: a :: F)) (B.map (turnP n) ++ (hf n :: (F ++ [iota n]))) :=
        ((r1.post F).pre _).trans ((r2.cons (hf n)).pre _)
      have g2 : Good n (B.map (turnP n) ++ (hf n :: F)) := gB.app (.cons (pn_hf hn) gd.tl)
      have s2 : Reach n (B.map (turnP n) ++ (hf n :: F)) (hf n :: (B ++ F)) := by
        have := (half_front hn (B.map (turnP n)) gB).post F
        rw [map_turn_turn bg] at this
        simpa using this
      rw [List.append_assoc]
      refine .trans (eqv_reach _ s1 hG) ?_
      rw [show B.map (turnP n) ++ (hf n :: (F ++ [iota n])) = (B.map (turnP n) ++ (hf n :: F)) ++ [iota n] by simp]
      refine .trans (.trail _ g2) (.trans (eqv_reach _ s2 g2) (.trans (.half _ (bg.app gd.tl)) ?_))
      rw [show -((a :: F).length : Int) + 1 = -(F.length : Int) by simp; omega]
      exact be

theorem strip_is_tight (hn : n ≤ 1000) : ∀ (T : List (List Int)), Good n T → Tight n T → Tight n (T.filter fun p => decide (p ≠ hf n ∧ p ≠ iota n)) := by
  intro T
  induction T with
  | nil => intro _ t; exact t
  | cons a T ih =>
    intro g t
    by_cases e : a = hf n
    · rw [List.filter_cons_of_neg (by simp [e])]
      exact ih g.tl t.tl
    · have hno := tight_lead hn g t e
      obtain ⟨U, m, h1, h3⟩ := tight_ones hn (a :: T) g t
      have hc : hf n ∉ a :: T := fun hm => by
        rcases List.mem_cons.1 hm with h | h
        · exact e h.symm
        · exact hno h
      have hf' : (a :: T).filter (fun p => decide (p ≠ hf n ∧ p ≠ iota n)) = U := by
        rw [h1, List.filter_append, List.filter_eq_self.2, List.filter_eq_nil_iff.2, List.append_nil]
        · intro x hx
          rw [List.eq_of_mem_replicate hx]; simp
        · intro x hx
          simp only [decide_eq_true_eq]
          refine ⟨fun hx2 => ?_, fun hx2 => h3 (hx2 ▸ hx)⟩
          have : x ∈ a :: T := by rw [h1]; simp [hx]
          rw [hx2] at this
          exact hc this
      rw [hf']
      rw [h1] at t
      exact fun G s => t _ (s.post _)
/-- Turned k times. -/
def tauK (n : Nat) (k : Int) (G : List (List Int)) : List (List Int) := if k % 2 = 0 then G else G.map (turnP n)
theorem good_tauK {G : List (List Int)} (g : Good n G) (k : Int) : Good n (tauK n k G) := by unfold tauK; split; exact g; exact good_turn g
theorem tauK_succ {G : List (List Int)} (g : Good n G) (k : Int) : tauK n (k + 1) G = (tauK n k G).map (turnP n) := by
  unfold tauK
  by_cases h : k % 2 = 0
  · rw [if_pos h, if_neg (by omega)]
  · rw [if_neg h, if_pos (by omega), map_turn_turn g]
theorem tauK_pred {G : List (List Int)} (g : Good n G) (k : Int) : tauK n (k - 1) G = (tauK n k G).map (turnP n) := by
  have h1 := tauK_succ g (k - 1)
  rw [show k - 1 + 1 = k by omega] at h1
  rw [h1, map_turn_turn (good_tauK g _)]
/-- One form behind another. -/
def prodS (n : Nat) (s t : St) : St := (s.1 + t.1, tauK n t.1 s.2 ++ t.2)
theorem prodS_mul {s : St} (g : Good n s.2) (t : St) (x : Int) : prodS n s (mulS n t x) = mulS n (prodS n s t) x := by
  unfold prodS mulS
  split
  · simp
  · simp only [List.map_append, tauK_pred g, List.append_assoc, Prod.mk.injEq, and_true]
    omega
theorem prodS_mulW {s : St} (g : Good n s.2) (w : List Int) : ∀ t : St, prodS n s (mulW n t w) = mulW n (prodS n s t) w := by
  induction w with
  | nil => exact fun _ => rfl
  | cons x w ih =>
    intro t
    rw [show mulW n t (x :: w) = mulW n (mulS n t x) w from rfl, ih, prodS_mul g]
    rfl
theorem prodS_eqv (hn : n ≤ 1000) {s t u : St} (g : Good n s.2) (h : Eqv n t u) : Eqv n (prodS n s t) (prodS n s u) := by
  induction h with
  | refl => exact .refl _
  | symm _ ih => exact .symm ih
  | trans _ _ ih1 ih2 => exact .trans ih1 ih2
  | step k g1 h => exact eqv_reach _ ((Reach.one h).pre _) ((good_tauK g k).app g1)
  | trail k g1 =>
    rename_i F
    unfold prodS
    rw [← List.append_assoc]
    exact .trail _ ((good_tauK g k).app g1)
  | half k g1 =>
    rename_i F
    unfold prodS
    have gt := good_tauK g k
    have s2 : Reach n (tauK n k s.2 ++ (hf n :: F)) (hf n :: ((tauK n k s.2).map (turnP n) ++ F)) := by
      have := (half_front hn (tauK n k s.2) gt).post F
      simpa using this
    refine .trans (eqv_reach _ s2 (gt.app (.cons (pn_hf hn) g1))) ?_
    rw [tauK_succ g]
    have := Eqv.half (n := n) (s.1 + k) ((good_turn gt).app g1)
    rwa [show s.1 + k + 1 = s.1 + (k + 1) by omega] at this
theorem mulW_start (n : Nat) (s : St) (w : List Int) (g : Good n s.2) : mulW n s w = prodS n s (mulW n (0, []) w) := by
  rw [prodS_mulW g]
  simp [prodS, tauK]

/-- A word and its inverse. -/
def invW (w : List Int) : List Int := (w.map fun x => -x).reverse
theorem invW_lt {w : List Int} (h : ∀ x ∈ w, Lt n x) : ∀ x ∈ invW w, Lt n x := fun x hx => by
  simp only [invW, List.mem_reverse, List.mem_map] at hx
  obtain ⟨y, hy, rfl⟩ := hx
  have := h y hy
  unfold Lt at *
  omega
theorem mulW_inv (hn : n ≤ 1000) (w : List Int) : ∀ {s : St}, (∀ x ∈ w, Lt n x) → Good n s.2 → Eqv n (mulW n (mulW n s w) (invW w)) s := by
  induction w with
  | nil => exact fun _ _ => .refl _
  | cons x w ih =>
    intro s hw g
    have hx := hw x (by simp)
    have hr : ∀ y ∈ w, Lt n y := fun y hy => hw y (by simp [hy])
    have g1 := mulS_good hn hx g
    have e : invW (x :: w) = invW w ++ [-x] := by simp [invW]
    rw [e, mulW_append, show mulW n s (x :: w) = mulW n (mulS n s x) w from rfl]
    have hnx : Lt n (-x) := by unfold Lt at *; omega
    exact .trans (eqv_mulW hn [-x] (fun y hy => by simp at hy; subst hy; exact hnx) (ih hr g1)) (cancel hn hx g)
/-- The normal form of the inverse. -/
theorem inv_form (hn : n ≤ 1000) (h2 : 2 ≤ n) {w : List Int} (hw : ∀ x ∈ w, Lt n x) {k : Int} {F : List (List Int)} (h : Cn n (mulW n (0, []) w) (k, F)) :
    ∃ G, G.length = F.length ∧ Cn n (mulW n (0, []) (invW w)) (-k - F.length, G) := by
  have gw := mulW_good hn w (0, []) hw (good_nil n)
  have hE := cn_eqv hn h2 h
  obtain ⟨_, T, r, t, e⟩ := h
  have gT := r.good gw
  obtain ⟨e1, e2⟩ := Prod.mk.inj e
  have gF : Good n F := fun x hx => by rw [e2] at hx; exact gT x (List.mem_filter.1 hx).1
  have nh : hf n ∉ F := fun hm => by rw [e2] at hm; have := (List.mem_filter.1 hm).2; simp at this
  have ni : iota n ∉ F := fun hm => by rw [e2] at hm; have := (List.mem_filter.1 hm).2; simp at this
  have tF : Tight n F := by rw [e2]; exact strip_is_tight hn T gT t
  obtain ⟨B, bl, bg, bt, bh, bi, be, _⟩ := inv_exists hn h2 F gF tF nh ni
  have gB := good_tauK bg k
  have tK : Tight n (tauK n k B) ∧ hf n ∉ tauK n k B ∧ iota n ∉ tauK n k B ∧ (tauK n k B).length = B.length := by
    unfold tauK
    split
    · exact ⟨bt, bh, bi, rfl⟩
    · exact ⟨tight_turn bg bt, turn_mem bg turn_hf bh, turn_mem bg turn_iota bi, by simp⟩
  refine ⟨tauK n k B, by rw [tK.2.2.2, bl], ?_⟩
  have hfin : Cn n (-k - F.length, tauK n k B) (-k - F.length, tauK n k B) := by
    refine ⟨gB, _, .refl _, tK.1, ?_⟩
    unfold strip
    rw [List.count_eq_zero.2 tK.2.1, List.filter_eq_self.2 fun x hx => by
      simp only [decide_eq_true_eq]
      exact ⟨fun e => tK.2.1 (e ▸ hx), fun e => tK.2.2.1 (e ▸ hx)⟩]
    simp
  refine (eqv_cn hn h2 ?_ _).2 hfin
  have h0 : Eqv n (mulW n (-k - F.length, tauK n k B) w) (0, []) := by
    rw [mulW_start n _ _ gB]
    refine .trans (prodS_eqv hn gB hE) ?_
    have : prodS n (-k - F.length, tauK n k B) (k, F) = (-(F.length : Int), B ++ F) := by
      unfold prodS
      have e3 : tauK n k (tauK n k B) = B := by
        unfold tauK
        split
        · rfl
        · exact map_turn_turn bg
      simp only [e3, Prod.mk.injEq, and_true]
      omega
    rw [this]; exact be
  exact .trans (eqv_mulW hn (invW w) (invW_lt hw) h0.symm) (mulW_inv hn w hw gB)

end
end Go.Proofs.Ytnmklkjlcpgjmaa

namespace Go.Proofs.Ytnmklkjlcpgjmaa
open Go.RowKit Go.Sl

section
variable {n : Nat}
/-- The letter of the crossing i. -/
def ltr (i : Nat) : Int := ((i + 1 : Nat) : Int)
theorem lt_ltr {i : Nat} (h : i + 1 < n) : LtB n (ltr i) := ⟨by unfold ltr; omega, by unfold ltr; omega⟩
/-- Words of a permutation, crossing by crossing. -/
inductive IsUp (n : Nat) : List Int → List Int → Prop
  | nil : IsUp n [] (iota n)
  | snoc {w f : List Int} {j : Nat} (h : IsUp n w f) (hj : j + 1 < n) (hu : up f j) : IsUp n (w ++ [ltr j]) (swapV f j)
theorem IsUp.pn (hn : n ≤ 1000) {w a : List Int} (h : IsUp n w a) : Pn n a := by
  induction h with
  | nil => exact pn_iota hn
  | snoc _ hj _ ih => exact ih.swapV hj
theorem IsUp.len (hn : n ≤ 1000) {w a : List Int} (h : IsUp n w a) : w.length = inv a := by
  induction h with
  | nil => rw [inv_iota]; rfl
  | snoc h hj hu ih => rw [List.length_append, ih, inv_up (h.pn hn) hj hu]; rfl
theorem IsUp.pos {w a : List Int} (h : IsUp n w a) : ∀ x ∈ w, 0 < x ∧ x < n := by
  induction h with
  | nil => intro x hx; simp at hx
  | snoc h hj hu ih =>
    intro x hx
    rcases List.mem_append.1 hx with hx | hx
    · exact ih x hx
    · rw [List.mem_singleton.1 hx]; unfold ltr; omega
theorem IsUp.lt {w a : List Int} (h : IsUp n w a) : ∀ x ∈ w, LtB n x := fun x hx => by
  have := h.pos x hx
  exact ⟨by omega, by omega⟩
theorem up_exists (hn : n ≤ 1000) : ∀ a, Pn n a → ∃ w, IsUp n w a :=
  permInd hn ⟨[], .nil⟩ fun _ _ _ hj hu ⟨_w, h⟩ => ⟨_, .snoc h hj hu⟩
theorem down_up {f : List Int} {i : Nat} (h : Pn n f) (hi : i + 1 < n) (hu : up f i) : dn (backL (swapV f i)) i := by
  have hl : i + 1 < (backL f).length := by rw [backL_length, h.len]; exact hi
  unfold dn
  rw [back_swapV h hi, nth_swapAt' _ _ _ hl, nth_swapAt' _ _ _ hl]
  unfold swN; unfold up at hu
  simpa using hu
theorem swapV_cancel {f g : List Int} {i : Nat} (h : swapV f i = swapV g i) : f = g := by
  have := congrArg (fun l => swapV l i) h
  simpa only [swapV_swapV] using this
/-- MATSUMOTO: the words of a permutation are equal by the relations. -/
theorem matsumoto (hn : n ≤ 1000) : ∀ (m : Nat) (w w' a : List Int), inv a ≤ m → IsUp n w a → IsUp n w' a → BE n w w' := by
  intro m
  induction m with
  | zero =>
    intro w w' a h0 h1 h2
    have e1 := h1.len hn
    have e2 := h2.len hn
    rw [List.eq_nil_of_length_eq_zero (show w.length = 0 by omega), List.eq_nil_of_length_eq_zero (show w'.length = 0 by omega)]
    exact .refl _
  | succ m ih =>
    intro w w' a h0 h1 h2
    cases h1 with
    | nil =>
      have e2 := h2.len hn
      rw [inv_iota] at e2
      rw [List.eq_nil_of_length_eq_zero e2]
      exact .refl _
    | @snoc w f i h1 hi ui =>
      have hF := h1.pn hn
      have iF := inv_up hF hi ui
      have key : ∀ {g w2 : List Int} {j : Nat}, IsUp n w2 g → j + 1 < n → up g j → swapV g j = swapV f i → BE n (w ++ [ltr i]) (w2 ++ [ltr j]) := by
        intro g w2 j k2 hj uj e
        have hG := k2.pn hn
        have iG := inv_up hG hj uj
        rw [e] at iG
        by_cases hij : i = j
        · subst hij
          obtain rfl := swapV_cancel e
          exact (ih _ _ _ (by omega) h1 k2).post _
        · have hA : Pn n (swapV f i) := hF.swapV hi
          have hB := hA.back
          have d1 := down_up hF hi ui
          have d2 : dn (backL (swapV f i)) j := by rw [← e]; exact down_up hG hj uj
          have eG : g = swapV (swapV f i) j := by rw [← e, swapV_swapV]
          have bF : backL f = swapAt (backL (swapV f i)) i := by
            have := back_swapV hA hi
            rwa [swapV_swapV] at this
          have bG : backL g = swapAt (backL (swapV f i)) j := by
            have := back_swapV hA hj
            rwa [← eG] at this
          rcases (show i + 1 < j ∨ j + 1 < i ∨ j = i + 1 ∨ i = j + 1 by omega) with hf | hf | rfl | rfl
          · have hfar : i + 1 < j ∨ j + 1 < i := .inl hf
            have d3 : dn (backL f) j := by rw [bF]; exact (dn_far hB hi hfar).2 d2
            have u3 := up_swapV hF hj d3
            obtain ⟨u, hu⟩ := up_exists hn (swapV f j) (hF.swapV hj)
            have h3 := IsUp.snoc hu hj u3
            rw [swapV_swapV] at h3
            have d4 : dn (backL g) i := by rw [bG]; exact (dn_far hB hj hfar.symm).2 d1
            have u4 := up_swapV hG hi d4
            have e5 : swapV g i = swapV f j := by rw [eG, swapV_far hfar.symm, swapV_swapV]
            rw [e5] at u4
            have h4 := IsUp.snoc hu hi u4
            rw [← e5, swapV_swapV] at h4
            have b1 := (ih _ _ _ (by omega) h1 h3).post [ltr i]
            have b2 := (ih _ _ _ (by omega) k2 h4).post [ltr j]
            refine b1.trans (.trans ?_ b2.symm)
            simp only [List.append_assoc, List.cons_append, List.nil_append]
            exact (BE.far (lt_ltr hj) (lt_ltr hi) (by unfold ltr; omega)).pre u
          · have hfar : i + 1 < j ∨ j + 1 < i := .inr hf
            have d3 : dn (backL f) j := by rw [bF]; exact (dn_far hB hi hfar).2 d2
            have u3 := up_swapV hF hj d3
            obtain ⟨u, hu⟩ := up_exists hn (swapV f j) (hF.swapV hj)
            have h3 := IsUp.snoc hu hj u3
            rw [swapV_swapV] at h3
            have d4 : dn (backL g) i := by rw [bG]; exact (dn_far hB hj hfar.symm).2 d1
            have u4 := up_swapV hG hi d4
            have e5 : swapV g i = swapV f j := by rw [eG, swapV_far hfar.symm, swapV_swapV]
            rw [e5] at u4
            have h4 := IsUp.snoc hu hi u4
            rw [← e5, swapV_swapV] at h4
            have b1 := (ih _ _ _ (by omega) h1 h3).post [ltr i]
            have b2 := (ih _ _ _ (by omega) k2 h4).post [ltr j]
            refine b1.trans (.trans ?_ b2.symm)
            simp only [List.append_assoc, List.cons_append, List.nil_append]
            exact (BE.far (lt_ltr hj) (lt_ltr hi) (by unfold ltr; omega)).pre u
          · obtain ⟨p1, p2, p3, p4⟩ := dn_next hB hj d1 d2
            rw [← bF] at p1 p2
            rw [← bG] at p3 p4
            have u1 := up_swapV hF hj p1
            have q1 : dn (backL (swapV f (i + 1))) i := by rw [back_swapV hF hj]; exact p2
            have u2 := up_swapV (hF.swapV hj) hi q1
            have u3 := up_swapV hG hi p3
            have q3 : dn (backL (swapV g i)) (i + 1) := by rw [back_swapV hG hi]; exact p4
            have u4 := up_swapV (hG.swapV hi) hj q3
            have e5 : swapV (swapV g i) (i + 1) = swapV (swapV f (i + 1)) i := by
              have e6 : swapV (swapV f (i + 1)) i = swapV (swapV (swapV (swapV f i) i) (i + 1)) i := by rw [swapV_swapV]
              rw [eG, e6]; exact (swapV_braid).symm
            obtain ⟨u, hu⟩ := up_exists hn _ ((hF.swapV hj).swapV hi)
            have h3 := IsUp.snoc (IsUp.snoc hu hi u2) hj (by rw [swapV_swapV]; exact u1)
            rw [swapV_swapV, swapV_swapV] at h3
            rw [← e5] at hu
            have h4 := IsUp.snoc (IsUp.snoc hu hj u4) hi (by rw [swapV_swapV]; exact u3)
            rw [swapV_swapV, swapV_swapV] at h4
            have b1 := (ih _ _ _ (by omega) h1 h3).post [ltr i]
            have b2 := (ih _ _ _ (by omega) k2 h4).post [ltr (i + 1)]
            refine b1.trans (.trans ?_ b2.symm)
            simp only [List.append_assoc, List.cons_append, List.nil_append]
            exact (BE.braid (i := i + 1) (by omega) hj).pre u
          · obtain ⟨p1, p2, p3, p4⟩ := dn_next hB hi d2 d1
            rw [← bG] at p1 p2
            rw [← bF] at p3 p4
            have u1 := up_swapV hG hi p1
            have q1 : dn (backL (swapV g (j + 1))) j := by rw [back_swapV hG hi]; exact p2
            have u2 := up_swapV (hG.swapV hi) hj q1
            have u3 := up_swapV hF hj p3
            have q3 : dn (backL (swapV f j)) (j + 1) := by rw [back_swapV hF hj]; exact p4
            have u4 := up_swapV (hF.swapV hj) hi q3
            have e5 : swapV (swapV g (j + 1)) j = swapV (swapV f j) (j + 1) := by
              have e6 : swapV (swapV f j) (j + 1) = swapV (swapV (swapV (swapV f (j + 1)) (j + 1)) j) (j + 1) := by rw [swapV_swapV]
              rw [eG, e6]; exact swapV_braid
            obtain ⟨u, hu⟩ := up_exists hn _ ((hF.swapV hj).swapV hi)
            have h3 := IsUp.snoc (IsUp.snoc hu hi u4) hj (by rw [swapV_swapV]; exact u3)
            rw [swapV_swapV, swapV_swapV] at h3
            rw [← e5] at hu
            have h4 := IsUp.snoc (IsUp.snoc hu hj u2) hi (by rw [swapV_swapV]; exact u1)
            rw [swapV_swapV, swapV_swapV] at h4
            have b1 := (ih _ _ _ (by omega) h1 h3).post [ltr (j + 1)]
            have b2 := (ih _ _ _ (by omega) k2 h4).post [ltr j]
            refine b1.trans (.trans ?_ b2.symm)
            simp only [List.append_assoc, List.cons_append, List.nil_append]
            exact (BE.braid (i := j + 1) (by omega) hi).symm.pre u
      generalize ea : swapV f i = a at h2
      cases h2 with
      | nil =>
        have := congrArg inv ea
        rw [inv_iota] at this
        omega
      | @snoc w2 g j h2 hj uj => exact key h2 hj uj ea.symm
theorem mats (hn : n ≤ 1000) {w w' a : List Int} (h : IsUp n w a) (k : IsUp n w' a) : BE n w w' := matsumoto hn _ w w' a (Nat.le_refl _) h k
/-- A crossing in front. -/
theorem IsUp.front (hn : n ≤ 1000) {w f : List Int} (h : IsUp n w f) : ∀ {i : Nat}, i + 1 < n → nth f i < nth f (i + 1) → IsUp n (ltr i :: w) (swapAt f i) := by
  induction h with
  | nil =>
    intro i hi _
    rw [← swapV_iota hi]
    exact IsUp.snoc .nil hi (up_iota hn hi)
  | @snoc w f j h hj uj ih =>
    intro i hi ha
    have hF := h.pn hn
    have hnd : ¬ dn f i := fun hd => by
      have := dn_keep hF hi hj hd uj
      unfold dn at this; omega
    have hasc := (dn_or hF hi).resolve_left hnd
    have h1 := ih hi hasc
    rw [swap_comm hF hi]
    refine IsUp.snoc h1 hj ?_
    have hS := hF.swapAt hi
    have hV := hF.swapV hj
    rcases up_or hS hj with h2 | h2
    · exact h2
    · exfalso
      have i1 := inv_down hS hj h2
      have hd2 : dn (swapAt (swapV f j) i) i := by
        unfold dn
        rw [nsw hV hi, nsw hV hi]
        unfold swN
        simpa using ha
      have i2 := inv_dn (hV.swapAt hi) hi hd2
      rw [swapAt_swapAt _ _ (by rw [swapV_length, hF.len]; exact hi), swap_comm hF hi] at i2
      have hd3 : dn (swapAt f i) i := by
        unfold dn
        rw [nsw hF hi, nsw hF hi]
        unfold swN
        simpa using hasc
      have i3 := inv_dn hS hi hd3
      rw [swapAt_swapAt _ _ (by rw [hF.len]; exact hi)] at i3
      have i4 := inv_up hF hj uj
      omega
/-- Turned words. -/
def turnW (n : Nat) (w : List Int) : List Int := w.map fun x => (n : Int) - x
theorem IsUp.turn (hn : n ≤ 1000) {w a : List Int} (h : IsUp n w a) : IsUp n (turnW n w) (turnP n a) := by
  induction h with
  | nil => rw [turn_iota]; exact .nil
  | @snoc w f j h hj uj ih =>
    have hF := h.pn hn
    rw [turn_swapV hF hj]
    have e : turnW n (w ++ [ltr j]) = turnW n w ++ [ltr (n - 2 - j)] := by
      unfold turnW ltr
      rw [List.map_append]
      simp only [List.map_cons, List.map_nil]
      congr 2
      omega
    rw [e]
    refine IsUp.snoc ih (by omega) ?_
    rw [up_turn hF (by omega), show n - 2 - (n - 2 - j) = j by omega]
    exact uj

/-! ### Words of sequences and of states -/
inductive WdF (n : Nat) : List (List Int) → List Int → Prop
  | nil : WdF n [] []
  | cons {a u : List Int} {F : List (List Int)} {w : List Int} (h : IsUp n u a) (k : WdF n F w) : WdF n (a :: F) (u ++ w)
theorem WdF.exists (hn : n ≤ 1000) : ∀ F, Good n F → ∃ w, WdF n F w := by
  intro F
  induction F with
  | nil => exact fun _ => ⟨_, .nil⟩
  | cons a F ih =>
    intro g
    obtain ⟨w, hw⟩ := ih g.tl
    obtain ⟨u, hu⟩ := up_exists hn a g.hd
    exact ⟨_, .cons hu hw⟩
theorem WdF.pos {F : List (List Int)} {w : List Int} (h : WdF n F w) : ∀ x ∈ w, 0 < x ∧ x < n := by
  induction h with
  | nil => intro x hx; simp at hx
  | cons h _ ih => exact fun x hx => (List.mem_append.1 hx).elim (h.pos x) (ih x)
theorem WdF.lt {F : List (List Int)} {w : List Int} (h : WdF n F w) : ∀ x ∈ w, LtB n x := fun x hx => by
  have := h.pos x hx
  exact ⟨by omega, by omega⟩
theorem WdF.len (hn : n ≤ 1000) {F : List (List Int)} {w : List Int} (h : WdF n F w) : w.length = tot F := by
  induction h with
  | nil => rfl
  | cons h _ ih => rw [List.length_append, ih, h.len hn]; rfl
theorem WdF.uniq (hn : n ≤ 1000) {F : List (List Int)} {w w' : List Int} (h : WdF n F w) : WdF n F w' → BE n w w' := by
  induction h generalizing w' with
  | nil => intro k; cases k; exact .refl _
  | cons h _ ih =>
    intro k
    cases k with
    | cons h' k => exact (mats hn h h').app (ih k)
theorem WdF.app {F G : List (List Int)} {u w : List Int} (h : WdF n F u) (k : WdF n G w) : WdF n (F ++ G) (u ++ w) := by
  induction h with
  | nil => exact k
  | cons h _ ih => rw [List.append_assoc]; exact .cons h ih
theorem WdF.split {F G : List (List Int)} : ∀ {w : List Int}, WdF n (F ++ G) w → ∃ u v, WdF n F u ∧ WdF n G v ∧ w = u ++ v := by
  induction F with
  | nil => exact fun {w} h => ⟨[], w, .nil, h, rfl⟩
  | cons a F ih =>
    intro w h
    cases h with
    | cons h k =>
      obtain ⟨u, v, h1, h2, rfl⟩ := ih k
      exact ⟨_, _, .cons h h1, h2, by simp⟩
theorem WdF.turn (hn : n ≤ 1000) {F : List (List Int)} {w : List Int} (h : WdF n F w) : WdF n (F.map (turnP n)) (turnW n w) := by
  induction h with
  | nil => exact .nil
  | cons h _ ih =>
    unfold turnW at *
    rw [List.map_append]
    exact .cons (h.turn hn) ih
theorem WdF.step (hn : n ≤ 1000) {F G : List (List Int)} (h : Step n F G) : Good n F → ∀ {w w' : List Int}, WdF n F w → WdF n G w' → BE n w w' := by
  induction h with
  | @here a b i post hi hu hd =>
    intro g w w' h k
    cases h with
    | cons h1 h =>
    cases h with
    | @cons _ v _ z h2 h3 =>
    cases k with
    | cons k1 k =>
    cases k with
    | @cons _ v' _ z' k2 k3 =>
    have hb := (g.tl).hd
    have hA := mats hn k1 (.snoc h1 hi hu)
    have hasc : nth (swapAt b i) i < nth (swapAt b i) (i + 1) := by
      rw [nsw hb hi, nsw hb hi]
      unfold swN
      unfold dn at hd
      simpa using hd
    have h4 := k2.front hn hi hasc
    rw [swapAt_swapAt _ _ (by rw [hb.len]; exact hi)] at h4
    have hB := mats hn h2 h4
    have hC := h3.uniq hn k3
    refine ((BE.refl (n := n) _).app (hB.app hC)).trans ?_
    refine BE.trans ?_ ((hA.symm).app (BE.refl (v' ++ z')))
    simp only [List.append_assoc, List.cons_append, List.nil_append]
    exact .refl _
  | next x h ih =>
    intro g w w' h1 k1
    cases h1 with
    | cons h1 h2 =>
    cases k1 with
    | cons k1 k2 => exact (mats hn h1 k1).app (ih g.tl h2 k2)
end
end Go.Proofs.Ytnmklkjlcpgjmaa

namespace Go.Proofs.Ytnmklkjlcpgjmaa
open Go.RowKit Go.Sl

section
variable {n : Nat}
def invB (w : List Int) : List Int := (w.map fun x => -x).reverse
theorem invB_append (a b : List Int) : invB (a ++ b) = invB b ++ invB a := by simp [invB]
theorem invB_invB (a : List Int) : invB (invB a) = a := by simp [invB, List.map_reverse, Function.comp_def]
theorem invB_lt {w : List Int} (h : ∀ x ∈ w, LtB n x) : ∀ x ∈ invB w, LtB n x := fun x hx => by
  unfold invB at hx
  rw [List.mem_reverse] at hx
  obtain ⟨y, hy, rfl⟩ := List.mem_map.1 hx
  have := h y hy
  exact ⟨by have := this.1; omega, by have := this.2; omega⟩
theorem BE.mulInv {w : List Int} (h : ∀ x ∈ w, LtB n x) : BE n (w ++ invB w) [] := by
  induction w with
  | nil => exact .refl _
  | cons x w ih =>
    have h1 := BE.ctx [x] [-x] (ih fun y hy => h y (by simp [hy]))
    have e : (x :: w) ++ invB (x :: w) = [x] ++ (w ++ invB w) ++ [-x] := by simp [invB]
    rw [e]
    exact h1.trans (by simpa using BE.cancel (h x (by simp)))
theorem BE.invMul {w : List Int} (h : ∀ x ∈ w, LtB n x) : BE n (invB w ++ w) [] := by
  have := BE.mulInv (invB_lt h)
  rwa [invB_invB] at this
theorem BE.inv {u v : List Int} (h : BE n u v) (hu : ∀ x ∈ u, LtB n x) : BE n (invB u) (invB v) := by
  have hv := h.lt.1 hu
  have h1 : BE n (invB u ++ v ++ invB v) (invB u ++ u ++ invB v) := BE.ctx (invB u) (invB v) h.symm
  have h2 := (BE.mulInv hv).pre (invB u)
  have h3 := (BE.invMul hu).post (invB v)
  rw [← List.append_assoc, List.append_nil] at h2
  exact h2.symm.trans (h1.trans h3)
theorem BE.cancelL {a u v : List Int} (h : BE n (a ++ u) (a ++ v)) (ha : ∀ x ∈ a, LtB n x) : BE n u v := by
  have h1 := h.pre (invB a)
  rw [← List.append_assoc, ← List.append_assoc] at h1
  exact ((BE.invMul ha).post u).symm.trans (h1.trans ((BE.invMul ha).post v))
theorem BE.cancelR {a u v : List Int} (h : BE n (u ++ a) (v ++ a)) (ha : ∀ x ∈ a, LtB n x) : BE n u v := by
  have h1 := h.post (invB a)
  rw [List.append_assoc, List.append_assoc] at h1
  have h2 := fun w => (BE.mulInv ha).pre w
  simp only [List.append_nil] at h2
  exact (h2 u).symm.trans (h1.trans (h2 v))
/-- A power of a word. -/
def powB (k : Int) (t : List Int) : List Int := (List.replicate k.natAbs (if 0 ≤ k then t else invB t)).flatten
theorem repB_succ (k : Nat) (t : List Int) : (List.replicate (k + 1) t).flatten = (List.replicate k t).flatten ++ t := by rw [List.replicate_succ', List.flatten_append, List.flatten_singleton]
theorem powB_zero (t : List Int) : powB 0 t = [] := rfl
theorem powB_succ {t : List Int} (ht : ∀ x ∈ t, LtB n x) (k : Int) : BE n (powB (k + 1) t) (powB k t ++ t) := by
  rcases Int.lt_or_le k 0 with h | h
  · obtain ⟨m, rfl⟩ : ∃ m : Nat, k = -((m : Int) + 1) := ⟨(-k - 1).toNat, by omega⟩
    have e1 : powB (-((m : Int) + 1)) t = (List.replicate m (invB t)).flatten ++ invB t := by
      unfold powB
      rw [if_neg (by omega), show (-((m : Int) + 1)).natAbs = m + 1 by omega, repB_succ]
    have e2 : powB (-((m : Int) + 1) + 1) t = (List.replicate m (invB t)).flatten := by
      unfold powB
      rw [show (-((m : Int) + 1) + 1).natAbs = m by omega]
      rcases Nat.eq_zero_or_pos m with rfl | h0
      · rfl
      · rw [if_neg (by omega)]
    rw [e1, e2, List.append_assoc]
    have := (BE.invMul ht).pre (List.replicate m (invB t)).flatten
    rw [List.append_nil] at this
    exact this.symm
  · have e1 : powB (k + 1) t = powB k t ++ t := by
      unfold powB
      rw [if_pos (by omega), if_pos h, show (k + 1).natAbs = k.natAbs + 1 by omega, repB_succ]
    rw [e1]
    exact .refl _
theorem powB_lt {t : List Int} (ht : ∀ x ∈ t, LtB n x) (k : Int) : ∀ x ∈ powB k t, LtB n x := fun x hx => by
  unfold powB at hx
  obtain ⟨l, hl, hx⟩ := List.mem_flatten.1 hx
  rw [List.eq_of_mem_replicate hl] at hx
  split at hx
  · exact ht x hx
  · exact invB_lt ht x hx
theorem powB_congr {t t' : List Int} (h : BE n t t') (ht : ∀ x ∈ t, LtB n x) (k : Int) : BE n (powB k t) (powB k t') := by
  have key : ∀ (m : Nat) {a b : List Int}, BE n a b → BE n (List.replicate m a).flatten (List.replicate m b).flatten := by
    intro m
    induction m with
    | zero => exact fun _ => .refl _
    | succ m ih =>
      intro a b h
      rw [List.replicate_succ, List.replicate_succ, List.flatten_cons, List.flatten_cons]
      exact h.app (ih h)
  unfold powB
  split
  · exact key _ h
  · exact key _ (h.inv ht)
/-- A word of a state. -/
def Wd (n : Nat) (s : St) (w : List Int) : Prop := ∃ t u, IsUp n t (hf n) ∧ WdF n s.2 u ∧ w = powB s.1 t ++ u
theorem Wd.exists (hn : n ≤ 1000) {s : St} (g : Good n s.2) : ∃ w, Wd n s w := by
  obtain ⟨t, ht⟩ := up_exists hn _ (pn_hf hn)
  obtain ⟨u, hu⟩ := WdF.exists hn _ g
  exact ⟨_, t, u, ht, hu, rfl⟩
theorem Wd.uniq (hn : n ≤ 1000) {s : St} {w w' : List Int} (h : Wd n s w) (k : Wd n s w') : BE n w w' := by
  obtain ⟨t, u, h1, h2, rfl⟩ := h
  obtain ⟨t', u', k1, k2, rfl⟩ := k
  exact (powB_congr (mats hn h1 k1) h1.lt _).app (h2.uniq hn k2)
theorem Wd.eqv (hn : n ≤ 1000) {s t : St} (h : Eqv n s t) : Good n s.2 → ∀ {w w' : List Int}, Wd n s w → Wd n t w' → BE n w w' := by
  induction h with
  | refl => exact fun _ _ _ h k => h.uniq hn k
  | symm h ih => exact fun g w w' h1 k1 => (ih ((eqv_good hn h).2 g) k1 h1).symm
  | trans h1 h2 ih1 ih2 =>
    intro g w w' a b
    have g2 := (eqv_good hn h1).1 g
    obtain ⟨v, hv⟩ := Wd.exists hn g2
    exact (ih1 g a hv).trans (ih2 g2 hv b)
  | step k g h =>
    rintro - w w' ⟨t, u, h1, h2, rfl⟩ ⟨t', u', k1, k2, rfl⟩
    exact (powB_congr (mats hn h1 k1) h1.lt _).app (WdF.step hn h g h2 k2)
  | trail k g =>
    rintro - w w' ⟨t, u, h1, h2, rfl⟩ ⟨t', u', k1, k2, rfl⟩
    obtain ⟨x, y, h3, h4, rfl⟩ := h2.split
    have h5 : BE n y [] := h4.uniq hn (WdF.cons .nil .nil)
    have h6 := (h3.uniq hn k2).app h5
    rw [List.append_nil] at h6
    exact (powB_congr (mats hn h1 k1) h1.lt _).app h6
  | half k g =>
    rintro - w w' ⟨t, u, h1, h2, rfl⟩ ⟨t', u', k1, k2, rfl⟩
    cases h2 with
    | cons h2 h3 =>
      have a1 := (powB_congr (mats hn h1 k1) h1.lt k).app ((mats hn h2 k1).app (h3.uniq hn k2))
      rw [← List.append_assoc (powB k t')] at a1
      exact a1.trans ((powB_succ k1.lt k).symm.post _)
/-- The half twist turns letters. -/
theorem half_letter (hn : n ≤ 1000) {t : List Int} (ht : IsUp n t (hf n)) {i : Nat} (hi : i + 1 < n) : BE n (ltr i :: t) (t ++ [ltr (n - 2 - i)]) := by
  have hH := pn_hf (n := n) hn
  have hj : n - 2 - i + 1 < n := by omega
  obtain ⟨d, hd⟩ := up_exists hn (swapV (hf n) (n - 2 - i)) (hH.swapV hj)
  have hu : up (swapV (hf n) (n - 2 - i)) (n - 2 - i) := up_swapV hH hj ((up_or hH hj).resolve_left (not_up_hf hn hj))
  have h1 := IsUp.snoc hd hj hu
  rw [swapV_swapV] at h1
  have e := swapAt_hf hn hi
  rw [← e] at hd
  have hdn := dn_hf (n := n) hi
  have hasc : nth (swapAt (hf n) i) i < nth (swapAt (hf n) i) (i + 1) := by
    rw [nsw hH hi, nsw hH hi]
    unfold swN
    unfold dn at hdn
    simpa using hdn
  have h2 := hd.front hn hi hasc
  rw [swapAt_swapAt _ _ (by rw [hH.len]; exact hi)] at h2
  have a1 := (mats hn ht h1).pre [ltr i]
  have a2 := (mats hn h2 ht).post [ltr (n - 2 - i)]
  simp only [List.cons_append, List.nil_append] at a1 a2
  exact a1.trans a2
theorem half_turn (hn : n ≤ 1000) {t : List Int} (ht : IsUp n t (hf n)) (u : List Int) : (∀ x ∈ u, 0 < x ∧ x < n) → BE n (turnW n u ++ t) (t ++ u) := by
  induction u with
  | nil => intro _; rw [List.append_nil]; exact .refl _
  | cons x u ih =>
    intro hu
    have hx := hu x (by simp)
    have h1 := half_letter hn ht (i := n - 1 - x.toNat) (by omega)
    have e1 : ltr (n - 1 - x.toNat) = (n : Int) - x := by unfold ltr; omega
    have e2 : ltr (n - 2 - (n - 1 - x.toNat)) = x := by unfold ltr; omega
    rw [e1, e2] at h1
    have h2 := (ih fun y hy => hu y (by simp [hy])).pre [(n : Int) - x]
    have h3 := h1.post u
    simp only [turnW, List.map_cons, List.cons_append, List.nil_append, List.append_assoc] at h2 h3 ⊢
    exact h2.trans h3
theorem Wd.mul (hn : n ≤ 1000) {s : St} {x : Int} (hx : Lt n x) {w w' : List Int} (h : Wd n s w) (k : Wd n (mulS n s x) w') : BE n w' (w ++ [x]) := by
  obtain ⟨t, u, h1, h2, rfl⟩ := h
  obtain ⟨t', u', k1, k2, rfl⟩ := k
  obtain ⟨hx0, hxn⟩ := hx
  unfold mulS at k2 ⊢
  split
  · rename_i hp
    rw [if_pos hp] at k2
    obtain ⟨a, b, a1, b1, rfl⟩ := WdF.split k2
    have hi : x.natAbs - 1 + 1 < n := by omega
    have e : ltr (x.natAbs - 1) = x := by unfold ltr; omega
    have hs : WdF n [sgP n (x.natAbs - 1)] [x] := by
      have h3 := IsUp.snoc (n := n) .nil hi (up_iota hn hi)
      rw [e] at h3
      have h4 := WdF.cons h3 .nil
      simp only [List.nil_append, List.append_nil] at h4
      exact h4
    have h4 := (a1.uniq hn h2).app (b1.uniq hn hs)
    rw [List.append_assoc]
    exact (powB_congr (mats hn k1 h1) k1.lt _).app h4
  · rename_i hp
    rw [if_neg hp] at k2
    obtain ⟨a, b, a1, b1, rfl⟩ := WdF.split k2
    have hi : x.natAbs - 1 + 1 < n := by omega
    have e : ltr (x.natAbs - 1) = -x := by unfold ltr; omega
    have hH := pn_hf (n := n) hn
    obtain ⟨d, hd⟩ := up_exists hn (dgP n (x.natAbs - 1)) (pn_dg hn hi)
    have hu : up (dgP n (x.natAbs - 1)) (x.natAbs - 1) := up_swapV hH hi ((up_or hH hi).resolve_left (not_up_hf hn hi))
    have h3 := IsUp.snoc hd hi hu
    unfold dgP at h3
    rw [swapV_swapV, e] at h3
    have hdt : BE n d (t ++ [x]) := by
      have h4 := (mats hn h3 h1).post [x]
      rw [List.append_assoc] at h4
      have h5 := (BE.cancel (n := n) (x := -x) ⟨by omega, by omega⟩).pre d
      rw [Int.neg_neg] at h5
      rw [List.append_nil] at h5
      exact h5.symm.trans h4
    have hb : BE n b d := b1.uniq hn (by simpa using WdF.cons hd .nil)
    have ha : BE n a (turnW n u) := a1.uniq hn (h2.turn hn)
    have c1 : BE n (a ++ b) (turnW n u ++ (t ++ [x])) := ha.app (hb.trans hdt)
    have c2 := (half_turn hn h1 u h2.pos).post [x]
    rw [List.append_assoc] at c2
    have c3 := (powB_congr (mats hn k1 h1) k1.lt (s.1 - 1)).app (c1.trans c2)
    have c4 := (powB_succ h1.lt (s.1 - 1)).post (u ++ [x])
    rw [show s.1 - 1 + 1 = s.1 by omega] at c4
    simp only [List.append_assoc] at c3 c4 ⊢
    exact c3.trans c4.symm
theorem Wd.mulW (hn : n ≤ 1000) (w : List Int) : ∀ {s : St} {a b : List Int}, Good n s.2 → (∀ x ∈ w, Lt n x) → Wd n s a → Wd n (mulW n s w) b → BE n b (a ++ w) := by
  induction w with
  | nil =>
    intro s a b _ _ h k
    rw [List.append_nil]
    exact k.uniq hn h
  | cons x w ih =>
    intro s a b g hw h k
    have hx := hw x (by simp)
    have g2 := mulS_good hn hx g
    obtain ⟨c, hc⟩ := Wd.exists hn g2
    have h1 := ih g2 (fun y hy => hw y (by simp [hy])) hc k
    have h2 := (Wd.mul hn hx h hc).post w
    rw [List.append_assoc] at h2
    exact h1.trans h2
/-- The state of a word. -/
def stB (n : Nat) (w : List Int) : St := mulW n (0, []) w
theorem stB_good (hn : n ≤ 1000) {w : List Int} (h : ∀ x ∈ w, LtB n x) : Good n (stB n w).2 := mulW_good hn w _ h (good_nil n)
theorem stB_wd (hn : n ≤ 1000) {w : List Int} (h : ∀ x ∈ w, LtB n x) {b : List Int} (k : Wd n (stB n w) b) : BE n b w := by
  obtain ⟨t, ht⟩ := up_exists hn _ (pn_hf (n := n) hn)
  have h0 : Wd n (0, []) [] := ⟨t, [], ht, .nil, rfl⟩
  simpa using Wd.mulW hn w (good_nil n) h h0 k
theorem BE.of_eqv (hn : n ≤ 1000) {u v : List Int} (hu : ∀ x ∈ u, LtB n x) (hv : ∀ x ∈ v, LtB n x) (h : Eqv n (stB n u) (stB n v)) : BE n u v := by
  obtain ⟨a, ha⟩ := Wd.exists hn (stB_good hn hu)
  obtain ⟨b, hb⟩ := Wd.exists hn (stB_good hn hv)
  exact (stB_wd hn hu ha).symm.trans ((Wd.eqv hn h (stB_good hn hu) ha hb).trans (stB_wd hn hv hb))
theorem BE.eqv (hn : n ≤ 1000) {u v : List Int} (h : BE n u v) : (∀ x ∈ u, LtB n x) → ∀ {s : St}, Good n s.2 → Eqv n (mulW n s u) (mulW n s v) := by
  induction h with
  | refl => exact fun _ _ _ => .refl _
  | symm h ih => exact fun hu s g => .symm (ih (h.lt.2 hu) g)
  | trans h1 h2 ih1 ih2 => exact fun hu s g => .trans (ih1 hu g) (ih2 (h1.lt.1 hu) g)
  | @ctx a b u v h ih =>
    intro hu s g
    rw [mulW_append, mulW_append, mulW_append, mulW_append]
    have g1 := mulW_good hn a s (fun x hx => hu x (by simp [hx])) g
    exact eqv_mulW hn b (fun x hx => hu x (by simp [hx])) (ih (fun x hx => hu x (by simp [hx])) g1)
  | cancel h => exact fun _ s g => Go.Proofs.Ytnmklkjlcpgjmaa.cancel hn h g
  | @far x y hx hy h =>
    intro _ s g
    have hxn := hx.2; have hyn := hy.2; have hx0 := hx.1; have hy0 := hy.1
    -- positive letters commute; the others by cancelling
    have pos : ∀ {p q : Int}, 0 < p → 0 < q → Lt n p → Lt n q → (p.natAbs + 1 < q.natAbs ∨ q.natAbs + 1 < p.natAbs) → ∀ {s : St}, Good n s.2 → Eqv n (mulS n (mulS n s p) q) (mulS n (mulS n s q) p) := by
      intro p q hp hq lp lq hpq s g
      have lp2 := lp.2
      have lq2 := lq.2
      have := far_mul hn (i := p.natAbs - 1) (j := q.natAbs - 1) (by omega) (by omega) (by omega) g
      rw [show ((p.natAbs - 1 : Nat) : Int) + 1 = p by omega, show ((q.natAbs - 1 : Nat) : Int) + 1 = q by omega] at this
      exact this
    have ng : ∀ {p q : Int}, Lt n p → Lt n q → (∀ {s : St}, Good n s.2 → Eqv n (mulS n (mulS n s p) q) (mulS n (mulS n s q) p)) → ∀ {s : St}, Good n s.2 → Eqv n (mulS n (mulS n s (-p)) q) (mulS n (mulS n s q) (-p)) := by
      intro p q lp lq hc s g
      have lm : Lt n (-p) := ⟨by have := lp.1; omega, by have := lp.2; omega⟩
      have g1 := mulS_good hn lm g
      have h1 := cancel' hn lp g
      -- s -p q = s -p q p -p = s -p p q -p = s q -p
      have h2 : Eqv n (mulS n (mulS n s (-p)) q) (mulS n (mulS n (mulS n (mulS n s (-p)) q) p) (-p)) := (Go.Proofs.Ytnmklkjlcpgjmaa.cancel hn lp (mulS_good hn lq g1)).symm
      have h3 := eqv_mul hn lm (hc g1).symm
      have h4 := eqv_mul hn lm (eqv_mul hn lq h1)
      exact h2.trans (h3.trans h4)
    have sw : ∀ {p q : Int}, (∀ {s : St}, Good n s.2 → Eqv n (mulS n (mulS n s p) q) (mulS n (mulS n s q) p)) → ∀ {s : St}, Good n s.2 → Eqv n (mulS n (mulS n s q) p) (mulS n (mulS n s p) q) := fun h _ g => (h g).symm
    have lax : Lt n (x.natAbs : Int) := ⟨by omega, by omega⟩
    have lay : Lt n (y.natAbs : Int) := ⟨by omega, by omega⟩
    have base : ∀ {s : St}, Good n s.2 → Eqv n (mulS n (mulS n s (x.natAbs : Int)) (y.natAbs : Int)) (mulS n (mulS n s (y.natAbs : Int)) (x.natAbs : Int)) := fun g => pos (by omega) (by omega) lax lay (by simpa using h) g
    have step1 : ∀ {s : St}, Good n s.2 → Eqv n (mulS n (mulS n s x) (y.natAbs : Int)) (mulS n (mulS n s (y.natAbs : Int)) x) := by
      rcases Int.lt_or_le x 0 with hn0 | hp0
      · intro s g
        have := ng lax lay base g
        rwa [show -(x.natAbs : Int) = x by omega] at this
      · intro s g
        have := base g
        rwa [show (x.natAbs : Int) = x by omega] at this
    rcases Int.lt_or_le y 0 with hn0 | hp0
    · have := ng lay hx (sw step1) g
      rw [show -(y.natAbs : Int) = y by omega] at this
      exact this.symm
    · have := step1 g
      rw [show (y.natAbs : Int) = y by omega] at this
      exact this
  | @braid i h0 h =>
    intro _ s g
    have := braid_mul hn (i := i - 1) (by omega) g
    rw [show ((i - 1 : Nat) : Int) + 1 = (i : Int) by omega] at this
    exact this
end
end Go.Proofs.Ytnmklkjlcpgjmaa


/- Slices of own rows: made, appended to, clipped. -/
import Derived.Test.YtmcecmnbdcbehaaQTopFox0
import Derived.Test.YtmcecmnbdcbehaaQTopFox1
import Derived.Test.YtmcecmnbdcbehaaQTopFox2
import Derived.Test.YtmcecmnbdcbehaaQTopFox4

namespace Go.Proofs.Ytmcecmnbdcbehaa
open Go.RowKit Go.Sl

def iota (n : Nat) : List Int := (List.range n).map Int.ofNat
theorem iota_length (n : Nat) : (iota n).length = n := by simp [iota]
theorem nth_iota (n k : Nat) (h : k < n) : nth (iota n) k = k := by rw [nth_lt (by rw [iota_length]; exact h)]; simp [iota]
theorem mem_iota {n : Nat} {x : Int} : x ∈ iota n ↔ 0 ≤ x ∧ x < n := by
  simp only [iota, List.mem_map, List.mem_range]
  constructor
  · rintro ⟨a, h, rfl⟩; simp; omega
  · rintro ⟨h1, h2⟩; exact ⟨x.toNat, by omega, by simp; omega⟩
theorem iota_nodup (n : Nat) : (iota n).Nodup := by
  unfold iota
  rw [List.nodup_iff_pairwise_ne] at *
  rw [List.pairwise_map]
  refine List.Pairwise.imp ?_ List.nodup_range
  intro a b h e
  exact h (Int.ofNat.inj e)
theorem ext_nth {xs ys : List Int} (hl : xs.length = ys.length) (h : ∀ k, k < xs.length → nth xs k = nth ys k) : xs = ys := by
  apply List.ext_getElem hl
  intro j h1 h2
  have := h j h1
  rwa [nth_lt h1, nth_lt h2] at this

def thenL (a b : List Int) : List Int := a.map fun x => nth b x.toNat
theorem thenL_length (a b : List Int) : (thenL a b).length = a.length := by simp [thenL]
theorem nth_thenL (a b : List Int) (k : Nat) (h : k < a.length) : nth (thenL a b) k = nth b (nth a k).toNat := by
  rw [nth_lt (by rw [thenL_length]; exact h)]; simp [thenL, nth_lt h]

/-- A permutation of small degree, as a list. -/
structure IsPerm (xs : List Int) : Prop where
  perm : xs.Perm (iota xs.length)
  small : xs.length ≤ 1000
theorem IsPerm.range {xs : List Int} (h : IsPerm xs) : ∀ x ∈ xs, 0 ≤ x ∧ x < xs.length := fun _ hx => mem_iota.1 (h.perm.mem_iff.1 hx)
theorem IsPerm.nodup {xs : List Int} (h : IsPerm xs) : xs.Nodup := h.perm.nodup_iff.2 (iota_nodup _)
theorem IsPerm.hit {xs : List Int} (h : IsPerm xs) {k : Nat} (hk : k < xs.length) : ∃ j, j < xs.length ∧ nth xs j = k := by
  have : (k : Int) ∈ xs := h.perm.mem_iff.2 (mem_iota.2 ⟨by omega, by omega⟩)
  obtain ⟨j, hj, he⟩ := List.getElem_of_mem this
  exact ⟨j, hj, by rw [nth_lt hj]; exact he⟩
theorem isPerm_iota {n : Nat} (h : n ≤ 1000) : IsPerm (iota n) := ⟨by rw [iota_length], by rw [iota_length]; exact h⟩

theorem thenL_iota (b : List Int) : thenL (iota b.length) b = b := by
  apply ext_nth (by rw [thenL_length, iota_length])
  intro k hk
  rw [thenL_length, iota_length] at hk
  rw [nth_thenL _ _ _ (by rw [iota_length]; exact hk), nth_iota _ _ hk]; simp
theorem iota_thenL {a : List Int} (h : ∀ x ∈ a, 0 ≤ x ∧ x < a.length) : thenL a (iota a.length) = a := by
  apply ext_nth (by rw [thenL_length])
  intro k hk
  rw [thenL_length] at hk
  have := h _ (nth_mem hk)
  rw [nth_thenL _ _ _ hk, nth_iota _ _ (by omega)]; omega
theorem IsPerm.then {a b : List Int} (ha : IsPerm a) (hb : IsPerm b) (hl : a.length = b.length) : IsPerm (thenL a b) := by
  refine ⟨?_, by rw [thenL_length]; exact ha.small⟩
  rw [thenL_length, hl]
  have h1 : (thenL a b).Perm (thenL (iota a.length) b) := ha.perm.map _
  rw [hl, thenL_iota] at h1
  exact h1.trans hb.perm

/-- The first k numbers of a permutation written at their places. -/
def backTo (xs : List Int) (k : Nat) : List Int := (List.range k).foldl (fun acc i => acc.set (nth xs i).toNat i) (List.replicate xs.length 0)
def backL (xs : List Int) : List Int := backTo xs xs.length
theorem backTo_zero (xs : List Int) : backTo xs 0 = List.replicate xs.length 0 := rfl
theorem backTo_succ (xs : List Int) (k : Nat) : backTo xs (k + 1) = (backTo xs k).set (nth xs k).toNat k := by
  simp [backTo, List.range_succ]
theorem backTo_length (xs : List Int) (k : Nat) : (backTo xs k).length = xs.length := by
  induction k with
  | zero => simp [backTo]
  | succ k ih => rw [backTo_succ]; simp [ih]
theorem backL_length (xs : List Int) : (backL xs).length = xs.length := backTo_length _ _
theorem nth_set_same {xs : List Int} {k : Nat} (x : Int) (h : k < xs.length) : nth (xs.set k x) k = x := by
  rw [nth_lt (by simpa using h)]; simp
theorem nth_set_other {xs : List Int} {k j : Nat} (x : Int) (h : k ≠ j) : nth (xs.set k x) j = nth xs j := by
  simp [nth, List.getElem?_set_ne h]
theorem IsPerm.inj {xs : List Int} (h : IsPerm xs) {i j : Nat} (hi : i < xs.length) (hj : j < xs.length) (e : nth xs i = nth xs j) : i = j := by
  rw [nth_lt hi, nth_lt hj] at e
  exact (List.getElem_inj h.nodup).1 e
theorem backTo_hit {xs : List Int} (h : IsPerm xs) (k : Nat) (hk : k ≤ xs.length) : ∀ j, j < k → nth (backTo xs k) (nth xs j).toNat = j := by
  induction k with
  | zero => intro j hj; omega
  | succ k ih =>
    intro j hj
    have hrk := h.range _ (nth_mem (xs := xs) (k := k) (by omega))
    rw [backTo_succ]
    rcases Nat.lt_or_ge j k with h1 | h1
    · have hrj := h.range _ (nth_mem (xs := xs) (k := j) (by omega))
      rw [nth_set_other _ (fun e => by
        have := h.inj (i := k) (j := j) (by omega) (by omega) (by omega)
        omega)]
      exact ih (by omega) j h1
    · have e : j = k := by omega
      subst e
      rw [nth_set_same _ (by rw [backTo_length]; omega)]
theorem then_back {xs : List Int} (h : IsPerm xs) : thenL xs (backL xs) = iota xs.length := by
  apply ext_nth (by rw [thenL_length, iota_length])
  intro k hk
  rw [thenL_length] at hk
  rw [nth_thenL _ _ _ hk, nth_iota _ _ hk]
  exact backTo_hit h _ (Nat.le_refl _) k hk
theorem IsPerm.back {xs : List Int} (h : IsPerm xs) : IsPerm (backL xs) := by
  refine ⟨?_, by rw [backL_length]; exact h.small⟩
  have h1 : (thenL xs (backL xs)).Perm (thenL (iota xs.length) (backL xs)) := h.perm.map _
  rw [then_back h] at h1
  have h2 := thenL_iota (backL xs)
  rw [backL_length] at h2 ⊢
  rw [h2] at h1
  exact h1.symm

/-! ### The maker of permutations -/
end Go.Proofs.Ytmcecmnbdcbehaa

namespace Go.Proofs.Ytmcecmnbdcbehaa
open Go.RowKit Go.Sl

/-- One letter onto the stack (its top is the list's head). -/
def psh (s : List Int) (x : Int) : List Int :=
  match s with
  | [] => [x]
  | y :: t => if y = -x then t else x :: y :: t
def act (s xs : List Int) : List Int := xs.foldl psh s
def redL (xs : List Int) : List Int := (act [] xs).reverse
def invL (xs : List Int) : List Int := (xs.map (- ·)).reverse
/-- No letter beside its inverse. -/
def Rd : List Int → Prop
  | [] => True
  | [_] => True
  | y :: z :: t => z ≠ -y ∧ Rd (z :: t)

theorem Rd.tail {y : Int} {t : List Int} (h : Rd (y :: t)) : Rd t := by
  cases t with
  | nil => trivial
  | cons z t => exact h.2
theorem rd_nil : Rd [] := trivial
theorem psh_rd {s : List Int} (h : Rd s) (x : Int) : Rd (psh s x) := by
  cases s with
  | nil => trivial
  | cons y t =>
    rw [psh]
    split
    · exact h.tail
    · rename_i hn; exact ⟨hn, h⟩
theorem psh_psh {s : List Int} (h : Rd s) (x : Int) : psh (psh s x) (-x) = s := by
  cases s with
  | nil => simp [psh]
  | cons y t =>
    by_cases hy : y = -x
    · subst hy
      rw [psh, if_pos rfl]
      cases t with
      | nil => rfl
      | cons z t => rw [psh, if_neg h.1]
    · rw [psh, if_neg hy, psh, if_pos (by omega)]
theorem act_append (s xs ys : List Int) : act s (xs ++ ys) = act (act s xs) ys := List.foldl_append
theorem act_snoc (s xs : List Int) (x : Int) : act s (xs ++ [x]) = psh (act s xs) x := by rw [act_append]; rfl
theorem act_rd {s : List Int} (h : Rd s) (xs : List Int) : Rd (act s xs) := by
  induction xs generalizing s with
  | nil => exact h
  | cons x xs ih => exact ih (psh_rd h x)
/-- A word acts as its reduced word. -/
theorem act_redL {s : List Int} (h : Rd s) (xs : List Int) : act s (redL xs) = act s xs := by
  obtain ⟨n, hn⟩ : ∃ n, xs.length = n := ⟨_, rfl⟩
  induction n generalizing xs with
  | zero => rw [List.length_eq_zero_iff.1 hn]; rfl
  | succ n ih =>
    rcases List.eq_nil_or_concat xs with rfl | ⟨l, x, hxs⟩
    · simp at hn
    · rw [List.concat_eq_append] at hxs
      subst hxs
      have hl : l.length = n := by simpa using hn
      have h1 := ih l hl
      have e : redL (l ++ [x]) = (psh (act [] l) x).reverse := by rw [redL, act_snoc]
      rw [act_snoc, e, ← h1]
      rw [redL] at h1 ⊢
      cases hst : act [] l with
      | nil => simp [psh, act]
      | cons y t =>
        rw [psh]
        split
        · rename_i hy
          rw [List.reverse_cons, act_snoc]
          have h2 := psh_psh (act_rd h t.reverse) y
          rw [show -y = x from by omega] at h2
          rw [h2]
        · rw [List.reverse_cons, act_snoc]
theorem act_invL {s : List Int} (h : Rd s) (xs : List Int) : act (act s xs) (invL xs) = s := by
  induction xs generalizing s with
  | nil => rfl
  | cons x xs ih =>
    have e : invL (x :: xs) = invL xs ++ [-x] := by simp [invL]
    rw [e, act_snoc]
    have := ih (psh_rd h x)
    rw [show act s (x :: xs) = act (psh s x) xs from rfl, this, psh_psh h]
theorem invL_invL (xs : List Int) : invL (invL xs) = xs := by
  simp [invL, List.map_reverse, Function.comp_def]
theorem redL_right (xs : List Int) : redL (xs ++ redL (invL xs)) = [] := by
  rw [redL, act_append, act_redL (act_rd rd_nil _), act_invL rd_nil]; rfl
theorem psh_length (s : List Int) (x : Int) : (psh s x).length ≤ s.length + 1 := by
  cases s with
  | nil => simp [psh]
  | cons y t => rw [psh]; split <;> simp only [List.length_cons] <;> omega
theorem act_length (s xs : List Int) : (act s xs).length ≤ s.length + xs.length := by
  induction xs generalizing s with
  | nil => simp [act]
  | cons x xs ih => have h1 := ih (psh s x); have h2 := psh_length s x; simp only [List.length_cons]; show (act (psh s x) xs).length ≤ _; omega
theorem redL_length (xs : List Int) : (redL xs).length ≤ xs.length := by have := act_length [] xs; simpa [redL] using this
theorem psh_mem {s : List Int} {x y : Int} (h : y ∈ psh s x) : y ∈ s ∨ y = x := by
  cases s with
  | nil => simp [psh] at h; exact .inr h
  | cons z t =>
    rw [psh] at h
    split at h
    · exact .inl (List.mem_cons_of_mem _ h)
    · rcases List.mem_cons.1 h with h | h
      · exact .inr h
      · exact .inl h
theorem act_mem {s xs : List Int} {y : Int} (h : y ∈ act s xs) : y ∈ s ∨ y ∈ xs := by
  induction xs generalizing s with
  | nil => exact .inl h
  | cons x xs ih =>
    rcases ih (s := psh s x) h with h' | h'
    · rcases psh_mem h' with h'' | h''
      · exact .inl h''
      · exact .inr (by simp [h''])
    · exact .inr (List.mem_cons_of_mem _ h')
theorem redL_mem {xs : List Int} {y : Int} (h : y ∈ redL xs) : y ∈ xs := by
  rw [redL, List.mem_reverse] at h
  rcases act_mem h with h' | h'
  · cases h'
  · exact h'

end Go.Proofs.Ytmcecmnbdcbehaa

namespace Go.Proofs.Ytmcecmnbdcbehaa
open Go.RowKit Go.Sl

def nthv (vs : List Value) (i : Nat) : Value := vs.getD i undef
def nthr (xss : List (List Int)) (i : Nat) : List Int := xss.getD i []
theorem nthv_lt {vs : List Value} {i : Nat} (h : i < vs.length) : nthv vs i = vs[i] := by simp [nthv, h]
theorem nthr_lt {xss : List (List Int)} {i : Nat} (h : i < xss.length) : nthr xss i = xss[i] := by simp [nthr, h]
theorem nthr_mem {xss : List (List Int)} {i : Nat} (h : i < xss.length) : nthr xss i ∈ xss := by rw [nthr_lt h]; exact List.getElem_mem h

/-- The slice v of slices holds the values vs, which read as the lists xss. -/
def RowsV (w : World) (v : Value) (vs : List Value) (xss : List (List Int)) : Prop := Sl w v 1 vs ∧ vs.length = xss.length ∧ ∀ i, i < xss.length → Ints w (nthv vs i) (nthr xss i)
def Rows2 (w : World) (v : Value) (xss : List (List Int)) : Prop := ∃ vs, RowsV w v vs xss

section
variable {w w' : World} {v : Value} {vs : List Value} {xss : List (List Int)} {B : Nat}
theorem RowsV.isSl (h : RowsV w v vs xss) : IsSl v := h.1.1
theorem RowsV.len (h : RowsV w v vs xss) : vlen v = xss.length := by have := h.1.2.1; rw [h.2.1] at this; omega
theorem RowsV.cell (h : RowsV w v vs xss) {i : Nat} (hi : i < xss.length) : w.cell? (vat v i) = some (nthv vs i) := by
  have := Sl.cell h.1 (j := i) (by rw [h.2.1]; exact hi)
  rw [this, nthv_lt (by rw [h.2.1]; exact hi)]
theorem RowsV.row (h : RowsV w v vs xss) {i : Nat} (hi : i < xss.length) : Ints w (nthv vs i) (nthr xss i) := h.2.2 i hi
theorem RowsV.below (h : RowsV w v vs xss) (hb : Below w.heap.size w w') : RowsV w' v vs xss := ⟨h.1.below hb, h.2.1, fun i hi => (h.2.2 i hi).below hb⟩
theorem RowsV.alloc (h : RowsV w v vs xss) (o : Obj) : RowsV (w.alloc o) v vs xss := h.below ((Below.refl _ _).alloc (Nat.le_refl _) o)
theorem Rows2.isSl (h : Rows2 w v xss) : IsSl v := h.choose_spec.isSl
theorem Rows2.len (h : Rows2 w v xss) : vlen v = xss.length := h.choose_spec.len
theorem Rows2.below (h : Rows2 w v xss) (hb : Below w.heap.size w w') : Rows2 w' v xss := let ⟨vs, h⟩ := h; ⟨vs, h.below hb⟩
/-- The call's own slice of slices: its rows are read, it may be appended to. -/
def OwnR (w : World) (B : Nat) (v : Value) (xss : List (List Int)) : Prop := ∃ vs, Own w B 25 1 v vs ∧ vs.length = xss.length ∧ ∀ i, i < xss.length → Ints w (nthv vs i) (nthr xss i)
theorem OwnR.rows (h : OwnR w B v xss) : Rows2 w v xss := let ⟨vs, a, b, c⟩ := h; ⟨vs, a.sl, b, c⟩
theorem OwnR.isSl (h : OwnR w B v xss) : IsSl v := h.rows.isSl
theorem OwnR.len (h : OwnR w B v xss) : vlen v = xss.length := h.rows.len
theorem OwnR.lt (h : OwnR w B v xss) : ∀ k, row v = some k → B ≤ k ∧ k < w.heap.size := let ⟨_, a, _, _⟩ := h; a.lt
theorem OwnR.below (h : OwnR w B v xss) (hb : Below w.heap.size w w') : OwnR w' B v xss := let ⟨vs, a, b, c⟩ := h; ⟨vs, a.below hb, b, fun i hi => (c i hi).below hb⟩
theorem OwnR.low (h : OwnR w B v xss) {B' : Nat} (hB : B' ≤ B) : OwnR w B' v xss := let ⟨vs, a, b, c⟩ := h; ⟨vs, a.low hB, b, c⟩
/-- No row lies in the slice's own block. -/
def OwnR.apart (w : World) (B : Nat) (v : Value) (xss : List (List Int)) : Prop := ∃ vs, Own w B 25 1 v vs ∧ vs.length = xss.length ∧ (∀ i, i < xss.length → Ints w (nthv vs i) (nthr xss i)) ∧ ∀ i, i < xss.length → 0 < (nthr xss i).length → row v ≠ some (vblk (nthv vs i))
theorem OwnR.apart.own (h : OwnR.apart w B v xss) : OwnR w B v xss := let ⟨vs, a, b, c, _⟩ := h; ⟨vs, a, b, c⟩
theorem OwnR.apart.below (h : OwnR.apart w B v xss) (hb : Below w.heap.size w w') : OwnR.apart w' B v xss := let ⟨vs, a, b, c, d⟩ := h; ⟨vs, a.below hb, b, fun i hi => (c i hi).below hb, d⟩
theorem ownRA_nil (w : World) (B : Nat) : OwnR.apart w B (.slice none 0 0) [] := ⟨[], own_nil w B _ 1, rfl, fun i hi => absurd hi (by simp), fun i hi => absurd hi (by simp)⟩
end

theorem Ints.keep {w w' : World} {v : Value} {xs : List Int} (h : Ints w v xs) {r : Option Nat} (hg : w.grownBy w' r) (hr : 0 < xs.length → r ≠ some (vblk v)) : Ints w' v xs := by
  rcases Nat.eq_zero_or_pos xs.length with h0 | h0
  · obtain rfl := List.eq_nil_of_length_eq_zero h0
    exact ⟨h.1, h.2.1, by simp⟩
  · exact h.grown hg fun k hk e => hr h0 (by rw [hk, e])
theorem Ints.blk_lt {w : World} {v : Value} {xs : List Int} (h : Ints w v xs) (h0 : 0 < xs.length) : vblk v < w.heap.size := by
  have := World.block_lt_of_cell? w _ (h.cell h0); exact this

/-- append of one row. -/
theorem wpList_pushRow {w : World} {ops : Array Oper} {rest : List Oper} {o : Oper} {a : Act} {Q : Exit → Act → World → Prop} (hgd : o.guard = none) (s x : Operand)
    (ho : o.op = .call { callee := .builtin .append, args := #[s, x], argTypes := #[22, 22] })
    {B : Nat} {v r : Value} {xss : List (List Int)} {ys : List Int} (hs : a.eval s = v) (hx : a.eval x = .slice (some ⟨w.heap.size, 0, none⟩) 1 1) (hown : OwnR.apart w B v xss) (hy : Ints w r ys) (hB : B ≤ w.heap.size) (hlen : xss.length ≤ 1000000000000)
    (hap : 0 < ys.length → row v ≠ some (vblk r))
    (h : ∀ v' w', OwnR.apart w' B v' (xss ++ [ys]) → w.grownBy w' (row v) → (∀ k, row v' = some k → row v = some k ∨ w.heap.size ≤ k) → wpList Try.prog ops Q rest (a.put o.dst v') w') :
    wpList Try.prog ops Q (o :: rest) a (w.alloc (.cells #[r] 25)) := by
  obtain ⟨i, hi, hz0, hz1, hz2⟩ := info_parts info_slice
  have hl : vlen v = xss.length := hown.own.len
  obtain ⟨vs, ha, hvl, hrows, hapr⟩ := hown
  refine wpList_append_sl hgd s x _ ho B 25 i _ 1 24 Try.underlying22 hi hz0 hz1 hz2 rfl (by decide) hs hx (Own.alloc ha _) (sl_one w r 25)
    (by intro u hu; simp at hu; subst hu; exact oneCell'_sl hy.1) (by simp only [vlen_mk, hl, maxLen]; omega) (by simp only [vlen_mk, hl]; omega) (by simp; omega) ?_
  intro v' w' h1 h2 h3
  have hg : w.grownBy w' (row v) := ⟨h2.os, h2.tape, h2.output, by have := h2.size; simp at this; omega, fun k hk hr => (h2.block k (by simp; omega) hr).trans (Below.heap_alloc w _ k hk)⟩
  have hfr : ∀ k, row v' = some k → row v = some k ∨ w.heap.size ≤ k := by
    intro k hk; rcases h3 k hk with h | h
    · exact .inl h
    · exact .inr (by simp at h; omega)
  have hnv : ∀ i, i < xss.length → nthv (vs ++ [r]) i = nthv vs i ∧ nthr (xss ++ [ys]) i = nthr xss i := by
    intro i hi
    simp [nthv, nthr, List.getElem?_append, hvl, hi]
  have hlast : nthv (vs ++ [r]) xss.length = r ∧ nthr (xss ++ [ys]) xss.length = ys := by
    simp [nthv, nthr, hvl]
  refine h v' w' ⟨vs ++ [r], h1, by simp [hvl], fun i hi => ?_, fun i hi h0 => ?_⟩ hg hfr
  · simp only [List.length_append, List.length_cons, List.length_nil] at hi
    rcases Nat.lt_or_ge i xss.length with hlt | hge
    · rw [(hnv i hlt).1, (hnv i hlt).2]
      exact (hrows i hlt).keep hg (hapr i hlt)
    · obtain rfl : i = xss.length := by omega
      rw [hlast.1, hlast.2]
      exact hy.keep hg hap
  · simp only [List.length_append, List.length_cons, List.length_nil] at hi
    intro e
    rcases Nat.lt_or_ge i xss.length with hlt | hge
    · rw [(hnv i hlt).2] at h0
      rw [(hnv i hlt).1] at e
      rcases hfr _ e with h4 | h4
      · exact hapr i hlt h0 h4
      · have := (hrows i hlt).blk_lt h0; omega
    · obtain rfl : i = xss.length := by omega
      rw [hlast.2] at h0
      rw [hlast.1] at e
      rcases hfr _ e with h4 | h4
      · exact hap h0 h4
      · have := hy.blk_lt h0; omega

end Go.Proofs.Ytmcecmnbdcbehaa

namespace Go.Proofs.Ytmcecmnbdcbehaa
open Go.RowKit Go.Sl

/-- One letter, on the images of the word behind it. -/
def stepA (xss : List (List Int)) (x : Int) : List (List Int) :=
  if 0 < x then (xss.set (x.natAbs - 1) (redL (nthr xss (x.natAbs - 1) ++ nthr xss x.natAbs ++ invL (nthr xss (x.natAbs - 1))))).set x.natAbs (nthr xss (x.natAbs - 1))
  else (xss.set (x.natAbs - 1) (nthr xss x.natAbs)).set x.natAbs (redL (invL (nthr xss x.natAbs) ++ nthr xss (x.natAbs - 1) ++ nthr xss x.natAbs))
def gensA (n : Nat) : List (List Int) := (List.range n).map fun (i : Nat) => [(i : Int) + 1]
def imagesA (n : Nat) (xs : List Int) : List (List Int) := xs.reverse.foldl stepA (gensA n)

theorem stepA_length (xss : List (List Int)) (x : Int) : (stepA xss x).length = xss.length := by
  unfold stepA; split <;> simp
theorem gensA_length (n : Nat) : (gensA n).length = n := by simp [gensA]
theorem gensA_succ (n : Nat) : gensA (n + 1) = gensA n ++ [[(n : Int) + 1]] := by simp [gensA, List.range_succ]

/-- All letters are those of the generators. -/
def SmallA (xss : List (List Int)) : Prop := ∀ r ∈ xss, (∀ x ∈ r, -1000 ≤ x ∧ x ≤ 1000) ∧ r.length ≤ 3000
end Go.Proofs.Ytmcecmnbdcbehaa

namespace Go.Proofs.Ytmcecmnbdcbehaa
open Go.RowKit Go.Sl

theorem rd_iff (l : List Int) : Rd l ↔ ∀ i, i + 1 < l.length → nth l (i + 1) ≠ -(nth l i) := by
  induction l with
  | nil => exact ⟨fun _ i h => by simp at h, fun _ => trivial⟩
  | cons x t ih =>
    cases t with
    | nil => exact ⟨fun _ i h => by simp at h, fun _ => trivial⟩
    | cons y t =>
      constructor
      · rintro ⟨h1, h2⟩ i hi
        cases i with
        | zero => simpa [nth] using h1
        | succ i =>
          have := ih.1 h2 i (by simpa using hi)
          simpa [nth] using this
      · intro h
        refine ⟨by simpa [nth] using h 0 (by simp), ih.2 fun i hi => ?_⟩
        have := h (i + 1) (by simpa using hi)
        simpa [nth] using this
theorem rd_mid {a b : List Int} {y x : Int} (h : Rd (a ++ y :: x :: b)) : x ≠ -y := by
  induction a with
  | nil => exact h.1
  | cons z a ih => exact ih (Rd.tail h)
theorem act_rd_append (l : List Int) : ∀ s, Rd (s.reverse ++ l) → act s l = l.reverse ++ s := by
  induction l with
  | nil => intro s _; rfl
  | cons x l ih =>
    intro s h
    have hp : psh s x = x :: s := by
      cases s with
      | nil => rfl
      | cons y t =>
        rw [psh, if_neg]
        intro e
        rw [List.reverse_cons, List.append_assoc] at h
        exact rd_mid h (by omega)
    show act (psh s x) l = _
    rw [hp, ih (x :: s) (by rw [List.reverse_cons, List.append_assoc]; exact h)]
    simp
theorem redL_of_rd {l : List Int} (h : Rd l) : redL l = l := by
  rw [redL, act_rd_append l [] (by simpa using h)]; simp
theorem nth_append (a b : List Int) (i : Nat) : nth (a ++ b) i = if i < a.length then nth a i else nth b (i - a.length) := by
  unfold nth
  split
  · rename_i h; simp [List.getElem?_append, h]
  · rename_i h; simp [List.getElem?_append, h]
theorem rd_append {a b : List Int} (ha : a ≠ []) (hb : b ≠ []) : Rd (a ++ b) ↔ Rd a ∧ Rd b ∧ nth b 0 ≠ -(nth a (a.length - 1)) := by
  have la := List.length_pos_iff.2 ha
  have lb := List.length_pos_iff.2 hb
  rw [rd_iff, rd_iff, rd_iff]
  constructor
  · intro h
    refine ⟨fun i hi => ?_, fun i hi => ?_, ?_⟩
    · have := h i (by rw [List.length_append]; omega)
      rwa [nth_append, if_pos hi, nth_append, if_pos (by omega)] at this
    · have := h (a.length + i) (by rw [List.length_append]; omega)
      rwa [nth_append, if_neg (by omega), nth_append, if_neg (by omega), show a.length + i + 1 - a.length = i + 1 by omega, show a.length + i - a.length = i by omega] at this
    · have := h (a.length - 1) (by rw [List.length_append]; omega)
      rwa [nth_append, if_neg (by omega), nth_append, if_pos (by omega), show a.length - 1 + 1 - a.length = 0 by omega] at this
  · rintro ⟨h1, h2, h3⟩ i hi
    rw [List.length_append] at hi
    rw [nth_append, nth_append]
    rcases Nat.lt_trichotomy (i + 1) a.length with h | h | h
    · rw [if_pos h, if_pos (by omega)]; exact h1 i h
    · rw [if_neg (by omega), if_pos (by omega), show i + 1 - a.length = 0 by omega, show i = a.length - 1 by omega]; exact h3
    · rw [if_neg (by omega), if_neg (by omega), show i + 1 - a.length = (i - a.length) + 1 by omega]; exact h2 _ (by omega)

structure Strip (c : List Int) (n : Nat) : Prop where
  le : 2 * n ≤ c.length
  off : ∀ i, i < n → nth c i = -(nth c (c.length - 1 - i))
  stop : c.length < 2 * n + 2 ∨ nth c n ≠ -(nth c (c.length - 1 - n))
theorem Strip.unique {c : List Int} {m n : Nat} (h : Strip c m) (k : Strip c n) : m = n := by
  rcases Nat.lt_trichotomy m n with hh | hh | hh
  · have h1 := k.le
    rcases h.stop with h2 | h2
    · omega
    · exact absurd (k.off m hh) h2
  · exact hh
  · have h1 := h.le
    rcases k.stop with h2 | h2
    · omega
    · exact absurd (h.off n hh) h2
theorem act_cancel {s : List Int} (h : Rd s) (u : List Int) : act (act s (invL u)) u = s := by
  have := act_invL h (invL u)
  rwa [invL_invL] at this
theorem redL_cancel (a u b : List Int) : redL (a ++ invL u ++ (u ++ b)) = redL (a ++ b) := by
  have : act [] (a ++ invL u ++ (u ++ b)) = act [] (a ++ b) := by
    rw [act_append, act_append, act_append, act_cancel (act_rd rd_nil _), act_append]
  exact congrArg List.reverse this
/-- The element at a place around the word. -/
def cat (e : List Int) (i : Nat) : Int := nth e (i % e.length)
def Turns (e : List Int) (k : Nat) : Prop := ∀ i, cat e (i + k) = cat e i
theorem Turns.mul {e : List Int} {k : Nat} (h : Turns e k) (q : Nat) : Turns e (k * q) := by
  induction q with
  | zero => intro i; rfl
  | succ q ih => intro i; rw [Nat.mul_succ, ← Nat.add_assoc, h, ih]
def Cond (e : List Int) (k : Nat) : Prop := e.length % k = 0 ∧ e.drop (k % e.length) ++ e.take (k % e.length) = e
structure IsRoot (e : List Int) (k : Nat) : Prop where
  pos : 0 < k
  le : k ≤ e.length
  cond : Cond e k
  least : ∀ k', 0 < k' → k' < k → ¬ Cond e k'
theorem IsRoot.unique {e : List Int} {k k' : Nat} (h : IsRoot e k) (g : IsRoot e k') : k = k' := by
  rcases Nat.lt_trichotomy k k' with h1 | h1 | h1
  · exact absurd h.cond (g.least k h.pos h1)
  · exact h1
  · exact absurd g.cond (h.least k' g.pos h1)
end Go.Proofs.Ytmcecmnbdcbehaa

namespace Go.Proofs.Ytmcecmnbdcbehaa
open Go.RowKit Go.Sl

theorem nthr_set (X : List (List Int)) (i j : Nat) (r : List Int) : nthr (X.set i r) j = if i = j ∧ j < X.length then r else nthr X j := by
  unfold nthr
  rw [List.getD_eq_getElem?_getD, List.getD_eq_getElem?_getD, List.getElem?_set]
  by_cases h : i = j
  · subst h
    by_cases h2 : i < X.length
    · simp [h2]
    · simp [h2]
  · simp [h]
theorem nthr_pos {X : List (List Int)} {i : Nat} (hi : i + 1 < X.length) (j : Nat) :
    nthr (stepA X ((i : Int) + 1)) j = if j = i + 1 then nthr X i else if j = i then redL (nthr X i ++ nthr X (i + 1) ++ invL (nthr X i)) else nthr X j := by
  have hn : ((i : Int) + 1).natAbs = i + 1 := by omega
  unfold stepA
  rw [if_pos (by omega), hn, Nat.add_sub_cancel, nthr_set, nthr_set, List.length_set]
  by_cases h : j = i + 1
  · subst h; simp [hi]
  · by_cases h2 : j = i
    · subst h2; simp [show j < X.length by omega]
    · simp [h, h2, Ne.symm h, Ne.symm h2]
theorem nthr_neg {X : List (List Int)} {i : Nat} (hi : i + 1 < X.length) (j : Nat) :
    nthr (stepA X (-((i : Int) + 1))) j = if j = i + 1 then redL (invL (nthr X (i + 1)) ++ nthr X i ++ nthr X (i + 1)) else if j = i then nthr X (i + 1) else nthr X j := by
  have hn : (-((i : Int) + 1)).natAbs = i + 1 := by omega
  unfold stepA
  rw [if_neg (by omega), hn, Nat.add_sub_cancel, nthr_set, nthr_set, List.length_set]
  by_cases h : j = i + 1
  · subst h; simp [hi]
  · by_cases h2 : j = i
    · subst h2; simp [show j < X.length by omega]
    · simp [h, h2, Ne.symm h, Ne.symm h2]

theorem nthr_gens {n j : Nat} (hj : j < n) : nthr (gensA n) j = [(j : Int) + 1] := by
  rw [nthr_lt (by rw [gensA_length]; exact hj)]; simp [gensA]
theorem nthr_over {X : List (List Int)} {j : Nat} (h : X.length ≤ j) : nthr X j = [] := by simp [nthr, h]
theorem foldA_len (ys : List Int) : ∀ X : List (List Int), (ys.foldl stepA X).length = X.length := by
  induction ys with
  | nil => exact fun _ => rfl
  | cons y t ih => exact fun X => by rw [List.foldl_cons, ih, stepA_length]

theorem invL_append (a b : List Int) : invL (a ++ b) = invL b ++ invL a := by simp [invL]
theorem redL_eq {a b : List Int} (h : act [] a = act [] b) : redL a = redL b := congrArg List.reverse h
/-- A letter as a place and a sign. -/
theorem letter_cases {c : Int} {n : Nat} (h0 : c ≠ 0) (hn : c.natAbs < n) : ∃ i : Nat, i + 1 < n ∧ (c = (i : Int) + 1 ∨ c = -((i : Int) + 1)) := ⟨c.natAbs - 1, by omega, by omega⟩
end Go.Proofs.Ytmcecmnbdcbehaa

namespace Go.Proofs.Ytmcecmnbdcbehaa
open Go.RowKit Go.Sl

/-- One word is the other with its first letters at its end. -/
def Rt (c d : List Int) : Prop := ∃ p q, c = p ++ q ∧ d = q ++ p
theorem Rt.refl (c : List Int) : Rt c c := ⟨[], c, by simp, by simp⟩
theorem Rt.symm {c d : List Int} (h : Rt c d) : Rt d c := let ⟨p, q, h1, h2⟩ := h; ⟨q, p, h2, h1⟩
theorem Rt.trans {c d e : List Int} (h : Rt c d) (k : Rt d e) : Rt c e := by
  obtain ⟨p, q, rfl, rfl⟩ := h
  obtain ⟨r, s, h1, rfl⟩ := k
  rcases List.append_eq_append_iff.1 h1 with ⟨t, rfl, rfl⟩ | ⟨t, rfl, rfl⟩
  · exact ⟨t, s ++ q, by simp, by simp⟩
  · exact ⟨p ++ r, t, by simp, by simp⟩
theorem Rt.length {c d : List Int} (h : Rt c d) : c.length = d.length := by
  obtain ⟨p, q, rfl, rfl⟩ := h
  simp only [List.length_append]; omega
theorem back {m : List Int} {r : Int} (h : Rd (m ++ [r])) (a : Int) : redL (m ++ [r] ++ [a]) = if r = -a then m else m ++ [r] ++ [a] := by
  split
  · rename_i e
    subst e
    have := redL_cancel m [a] []
    have e2 : redL (m ++ [-a] ++ [a]) = redL m := by simpa [invL] using this
    rw [e2, redL_of_rd]
    by_cases hm : m = []
    · subst hm; trivial
    · exact ((rd_append hm (by simp)).1 h).1
  · rename_i e
    refine redL_of_rd ((rd_append (by simp) (by simp)).2 ⟨h, trivial, ?_⟩)
    rw [nth_append, List.length_append, if_neg (by simp)]
    simp [nth]; omega
def sg2 (x : Int) : Int := if 0 < x then 1 else -1
def exp2 : List Int → Int
  | [] => 0
  | x :: w => sg2 x + exp2 w
theorem exp2_append (a b : List Int) : exp2 (a ++ b) = exp2 a + exp2 b := by
  induction a with
  | nil => simp [exp2]
  | cons x a ih => rw [List.cons_append, exp2, exp2, ih]; omega
theorem exp2_snoc (a : List Int) (x : Int) : exp2 (a ++ [x]) = exp2 a + sg2 x := by rw [exp2_append]; simp [exp2]
theorem exp2_reverse (a : List Int) : exp2 a.reverse = exp2 a := by
  induction a with
  | nil => rfl
  | cons x a ih => rw [List.reverse_cons, exp2_snoc, ih, exp2]; omega
theorem exp2_act (xs : List Int) : ∀ s, (∀ x ∈ xs, x ≠ 0) → exp2 (act s xs) = exp2 s + exp2 xs := by
  induction xs with
  | nil => intro s _; simp [act, exp2]
  | cons x xs ih =>
    intro s h
    have hx := h x (by simp)
    show exp2 (act (psh s x) xs) = _
    rw [ih _ (fun y hy => h y (by simp [hy])), exp2]
    have : exp2 (psh s x) = exp2 s + sg2 x := by
      cases s with
      | nil => simp [psh, exp2]
      | cons y t =>
        rw [psh]
        split
        · rename_i e
          subst e
          rw [exp2]; unfold sg2; split <;> split <;> omega
        · simp only [exp2]; omega
    rw [this]; omega
theorem exp2_redL (xs : List Int) (h : ∀ x ∈ xs, x ≠ 0) : exp2 (redL xs) = exp2 xs := by
  rw [redL, exp2_reverse, exp2_act xs [] h]; simp [exp2]
theorem exp2_invL (xs : List Int) (h : ∀ x ∈ xs, x ≠ 0) : exp2 (invL xs) = -exp2 xs := by
  unfold invL
  rw [exp2_reverse]
  induction xs with
  | nil => rfl
  | cons x xs ih =>
    have hx := h x (by simp)
    rw [List.map_cons, exp2, exp2, ih fun y hy => h y (by simp [hy])]
    unfold sg2; split <;> split <;> omega
end Go.Proofs.Ytmcecmnbdcbehaa

namespace Go.Proofs.Ytmcecmnbdcbehaa
open Go.RowKit Go.Sl

def fact : Nat → Nat
  | 0 => 1
  | n + 1 => (n + 1) * fact n
/-- How many of the numbers are smaller. -/
def less (xs : List Int) (x : Int) : Nat := (xs.filter fun y => decide (y < x)).length
/-- Strictly ascending. -/
def Asc (l : List Int) : Prop := l.Pairwise (· < ·)
theorem asc_iota (n : Nat) : Asc (iota n) := by
  unfold Asc iota
  rw [List.pairwise_map]
  refine List.Pairwise.imp ?_ List.pairwise_lt_range
  intro a b h
  simpa using h
theorem Asc.lt {l : List Int} (h : Asc l) {i j : Nat} (hij : i < j) (hj : j < l.length) : nth l i < nth l j := by
  rw [nth_lt hj, nth_lt (by omega)]
  exact List.pairwise_iff_getElem.1 h i j (by omega) hj hij
theorem less_perm {a b : List Int} (h : a.Perm b) (x : Int) : less a x = less b x := (h.filter _).length_eq
end Go.Proofs.Ytmcecmnbdcbehaa

namespace Go.Proofs.Ytmcecmnbdcbehaa
open Go.RowKit Go.Sl

def evL : List Int → Rat → Rat
  | [], _ => 0
  | x :: l, t => (x : Rat) + t * evL l t
def evI : List Int → Int → Int
  | [], _ => 0
  | x :: l, t => x + t * evI l t
def n1 : List Int → Nat
  | [] => 0
  | x :: l => x.natAbs + n1 l
structure LP where
  low : Int
  c : List Int
deriving DecidableEq
def ev (p : LP) (t : Rat) : Rat := t ^ p.low * evL p.c t
structure Trimmed (p : LP) : Prop where
  zero : p.c = [] → p.low = 0
  first : p.c ≠ [] → nth p.c 0 ≠ 0
  last : p.c ≠ [] → nth p.c (p.c.length - 1) ≠ 0
instance (p : LP) : Decidable (Trimmed p) :=
  if h : (p.c = [] → p.low = 0) ∧ (p.c ≠ [] → nth p.c 0 ≠ 0) ∧ (p.c ≠ [] → nth p.c (p.c.length - 1) ≠ 0) then isTrue ⟨h.1, h.2.1, h.2.2⟩ else isFalse fun g => h ⟨g.1, g.2, g.3⟩

theorem evL_int (l : List Int) (n : Int) : evL l (n : Rat) = ((evI l n : Int) : Rat) := by
  induction l with
  | nil => rfl
  | cons x l ih => rw [evL, evI, ih]; simp [Rat.intCast_add, Rat.intCast_mul]
theorem dvd_small {x : Int} (h : ∀ n : Nat, 1 ≤ n → (n : Int) ∣ x) : x = 0 := by
  obtain ⟨k, hk⟩ := h (x.natAbs + 1) (by omega)
  rcases Int.lt_trichotomy k 0 with h1 | h1 | h1
  · have : ((x.natAbs + 1 : Nat) : Int) * k ≤ ((x.natAbs + 1 : Nat) : Int) * (-1) := Int.mul_le_mul_of_nonneg_left (by omega) (by omega)
    omega
  · rw [h1] at hk; simpa using hk
  · have : ((x.natAbs + 1 : Nat) : Int) * 1 ≤ ((x.natAbs + 1 : Nat) : Int) * k := Int.mul_le_mul_of_nonneg_left (by omega) (by omega)
    omega
theorem nth_nil (k : Nat) : nth [] k = 0 := by simp [nth]
theorem nth_cons_zero (x : Int) (l : List Int) : nth (x :: l) 0 = x := by simp [nth]
theorem nth_cons_succ (x : Int) (l : List Int) (k : Nat) : nth (x :: l) (k + 1) = nth l k := by simp [nth]
theorem evI_inj (a : List Int) : ∀ b, (∀ n : Nat, 1 ≤ n → evI a n = evI b n) → ∀ k, nth a k = nth b k := by
  have zero : ∀ b : List Int, (∀ n : Nat, 1 ≤ n → evI b n = 0) → ∀ k, nth b k = 0 := by
    intro b
    induction b with
    | nil => intro _ k; exact nth_nil k
    | cons y b ih =>
      intro h
      have h0 : y = 0 := dvd_small fun n hn => ⟨-(evI b n), by have := h n hn; rw [evI] at this; rw [Int.mul_neg]; omega⟩
      have h1 : ∀ n : Nat, 1 ≤ n → evI b n = 0 := fun n hn => by
        have := h n hn
        rw [evI, h0, Int.zero_add] at this
        rcases Int.mul_eq_zero.1 this with h2 | h2
        · omega
        · exact h2
      intro k
      cases k with
      | zero => rw [nth_cons_zero, h0]
      | succ k => rw [nth_cons_succ, ih h1]
  induction a with
  | nil => intro b h k; rw [nth_nil, zero b (fun n hn => (h n hn).symm) k]
  | cons x a ih =>
    intro b h
    cases b with
    | nil => intro k; rw [nth_nil, zero (x :: a) (fun n hn => h n hn) k]
    | cons y b =>
      have h0 : x - y = 0 := dvd_small fun n hn => ⟨evI b n - evI a n, by have := h n hn; rw [evI, evI] at this; rw [Int.mul_sub]; omega⟩
      have h1 : ∀ n : Nat, 1 ≤ n → evI a n = evI b n := fun n hn => by
        have := h n hn
        rw [evI, evI] at this
        have h2 : (n : Int) * (evI a n - evI b n) = 0 := by rw [Int.mul_sub]; omega
        rcases Int.mul_eq_zero.1 h2 with h3 | h3 <;> omega
      intro k
      cases k with
      | zero => rw [nth_cons_zero, nth_cons_zero]; omega
      | succ k => rw [nth_cons_succ, nth_cons_succ]; exact ih b h1 k

theorem evL_zeros (k : Nat) (l : List Int) (t : Rat) : evL (List.replicate k 0 ++ l) t = t ^ k * evL l t := by
  induction k with
  | zero => simp
  | succ k ih => rw [List.replicate_succ, List.cons_append, evL, ih, Rat.pow_succ]; grind
theorem natCast_ne {n : Nat} (h : 1 ≤ n) : (n : Rat) ≠ 0 := by
  intro e
  have : ((n : Int) : Rat) = ((0 : Int) : Rat) := by simpa using e
  rw [Rat.intCast_inj] at this
  omega
theorem nth_zeros (k : Nat) (l : List Int) (i : Nat) : nth (List.replicate k 0 ++ l) i = if i < k then 0 else nth l (i - k) := by
  unfold nth
  simp only [List.getD_eq_getElem?_getD]
  split
  · rename_i h; rw [List.getElem?_append_left (by simpa using h)]; simp [h]
  · rename_i h; rw [List.getElem?_append_right (by simp; omega)]; simp
theorem nth_ge {l : List Int} {k : Nat} (h : l.length ≤ k) : nth l k = 0 := by simp [nth, h]

theorem ev_inj_le {p q : LP} (hp : Trimmed p) (hq : Trimmed q) (hle : p.low ≤ q.low) (h : ∀ n : Nat, 1 ≤ n → ev p n = ev q n) : p = q := by
  obtain ⟨k, hk⟩ : ∃ k : Nat, q.low = p.low + k := ⟨(q.low - p.low).toNat, by omega⟩
  have h1 : ∀ i, nth p.c i = nth (List.replicate k 0 ++ q.c) i := by
    apply evI_inj
    intro n hn
    have hn0 := natCast_ne hn
    have h2 := h n hn
    rw [ev, ev, hk, Rat.zpow_add hn0, Rat.mul_assoc, Rat.zpow_natCast, ← evL_zeros] at h2
    have h3 : (n : Rat) ^ p.low ≠ 0 := by
      intro e
      have h4 := Rat.zpow_add hn0 p.low (-p.low)
      rw [e, Int.add_right_neg] at h4
      simp at h4
    have h5 : evL p.c n = evL (List.replicate k 0 ++ q.c) n := by
      have h6 := congrArg (((n : Rat) ^ p.low)⁻¹ * ·) h2
      simpa [← Rat.mul_assoc, Rat.inv_mul_cancel _ h3] using h6
    have h7 := evL_int p.c n
    have h8 := evL_int (List.replicate k 0 ++ q.c) n
    simp only [Rat.intCast_natCast] at h7 h8
    rw [h7, h8, Rat.intCast_inj] at h5
    exact h5
  obtain ⟨pl, pc⟩ := p
  obtain ⟨ql, qc⟩ := q
  simp only at hk h1
  by_cases e1 : pc = []
  · subst e1
    have h0 := hp.zero rfl
    by_cases e2 : qc = []
    · subst e2
      have h0' := hq.zero rfl
      simp only at h0 h0'
      rw [h0, h0']
    · have h2 := hq.last e2
      have h3 := h1 (k + (qc.length - 1))
      rw [nth_nil, nth_zeros, if_neg (by omega), Nat.add_sub_cancel_left] at h3
      exact absurd h3.symm h2
  · by_cases e2 : qc = []
    · subst e2
      have h2 := hp.first e1
      have h3 := h1 0
      rw [nth_zeros] at h3
      exact absurd (by rw [h3]; split <;> simp [nth]) h2
    · have hk0 : k = 0 := by
        rcases Nat.eq_zero_or_pos k with h2 | h2
        · exact h2
        · have h3 := h1 0
          rw [nth_zeros, if_pos h2] at h3
          exact absurd h3 (hp.first e1)
      subst hk0
      simp only [List.replicate_zero, List.nil_append] at h1
      have hl : pc.length = qc.length := by
        have a1 : 0 < pc.length := List.length_pos_iff.2 e1
        have a2 : 0 < qc.length := List.length_pos_iff.2 e2
        rcases Nat.lt_trichotomy pc.length qc.length with h2 | h2 | h2
        · exact absurd ((h1 (qc.length - 1)).symm.trans (nth_ge (by omega))) (hq.last e2)
        · exact h2
        · exact absurd ((h1 (pc.length - 1)).trans (nth_ge (by omega))) (hp.last e1)
      have hc : pc = qc := ext_nth hl fun i _ => h1 i
      rw [hc]
      have : pl = ql := by omega
      rw [this]
theorem ev_inj {p q : LP} (hp : Trimmed p) (hq : Trimmed q) (h : ∀ n : Nat, 1 ≤ n → ev p n = ev q n) : p = q := by
  rcases Int.le_total p.low q.low with h1 | h1
  · exact ev_inj_le hp hq h1 h
  · exact (ev_inj_le hq hp h1 fun n hn => (h n hn).symm).symm
/-- A trimmed polynomial is known by its values at all numbers but 0. -/
theorem ev_ext {p q : LP} (hp : Trimmed p) (hq : Trimmed q) (h : ∀ t : Rat, t ≠ 0 → ev p t = ev q t) : p = q := ev_inj hp hq fun n hn => h n (natCast_ne hn)

theorem evL_append (a b : List Int) (t : Rat) : evL (a ++ b) t = evL a t + t ^ a.length * evL b t := by
  induction a with
  | nil => simp [evL, Rat.zero_add]
  | cons x a ih => rw [List.cons_append, evL, evL, ih, List.length_cons, Rat.pow_succ]; grind
theorem evL_zeros_end (l : List Int) (m : Nat) (t : Rat) : evL (l ++ List.replicate m 0) t = evL l t := by
  have h : evL (List.replicate m 0) t = 0 := by
    have := evL_zeros m [] t
    simpa [evL] using this
  rw [evL_append, h]; grind
theorem evL_replicate (m : Nat) (t : Rat) : evL (List.replicate m 0) t = 0 := by
  have := evL_zeros_end [] m t
  simpa [evL] using this
theorem evL_set (l : List Int) (i : Nat) (y : Int) (t : Rat) (h : i < l.length) : evL (l.set i y) t = evL l t + ((y : Rat) - (nth l i : Int)) * t ^ i := by
  induction l generalizing i with
  | nil => simp at h
  | cons x l ih =>
    cases i with
    | zero => rw [List.set_cons_zero, evL, evL, nth_cons_zero]; grind
    | succ i => rw [List.set_cons_succ, evL, evL, nth_cons_succ, ih i (by simpa using h), Rat.pow_succ]; grind
theorem evL_take_succ (l : List Int) (i : Nat) (t : Rat) (h : i < l.length) : evL (l.take (i + 1)) t = evL (l.take i) t + (nth l i : Int) * t ^ i := by
  rw [List.take_succ_eq_append_getElem h, evL_append, nth_lt h, List.length_take, Nat.min_eq_left (by omega), evL, evL]; grind

theorem n1_append (a b : List Int) : n1 (a ++ b) = n1 a + n1 b := by
  induction a with
  | nil => simp [n1]
  | cons x a ih => rw [List.cons_append, n1, n1, ih]; omega
theorem n1_replicate (m : Nat) : n1 (List.replicate m 0) = 0 := by
  induction m with
  | zero => rfl
  | succ m ih => rw [List.replicate_succ, n1, ih]; rfl
theorem n1_set (l : List Int) (i : Nat) (y : Int) (h : i < l.length) : n1 (l.set i y) + (nth l i).natAbs = n1 l + y.natAbs := by
  induction l generalizing i with
  | nil => simp at h
  | cons x l ih =>
    cases i with
    | zero => rw [List.set_cons_zero, n1, n1, nth_cons_zero]; omega
    | succ i => rw [List.set_cons_succ, n1, n1, nth_cons_succ]; have := ih i (by simpa using h); omega
theorem n1_nth (l : List Int) (i : Nat) : (nth l i).natAbs ≤ n1 l := by
  induction l generalizing i with
  | nil => rw [nth_nil]; simp
  | cons x l ih =>
    cases i with
    | zero => rw [nth_cons_zero, n1]; omega
    | succ i => rw [nth_cons_succ, n1]; have := ih i; omega
theorem n1_mem {l : List Int} {x : Int} (h : x ∈ l) : x.natAbs ≤ n1 l := by
  obtain ⟨i, hi, rfl⟩ := List.getElem_of_mem h
  rw [← nth_lt hi]; exact n1_nth l i
theorem n1_take_succ (l : List Int) (i : Nat) (h : i < l.length) : n1 (l.take (i + 1)) = n1 (l.take i) + (nth l i).natAbs := by
  rw [List.take_succ_eq_append_getElem h, n1_append, nth_lt h, n1, n1]; omega
theorem n1_take_le (l : List Int) (i : Nat) : n1 (l.take i) ≤ n1 l := by
  have := n1_append (l.take i) (l.drop i)
  rw [List.take_append_drop] at this; omega

/-- Without the zeros ahead. -/
def dropZ : List Int → List Int
  | [] => []
  | x :: l => if x = 0 then dropZ l else x :: l
def dropE (l : List Int) : List Int := (dropZ l.reverse).reverse
def trimP (low : Int) (c : List Int) : LP :=
  if dropZ c = [] then ⟨0, []⟩ else ⟨low + ((c.length - (dropZ c).length : Nat) : Int), dropE (dropZ c)⟩
theorem dropZ_zeros (l : List Int) : (dropZ l).length ≤ l.length ∧ l = List.replicate (l.length - (dropZ l).length) 0 ++ dropZ l := by
  induction l with
  | nil => simp [dropZ]
  | cons x l ih =>
    rw [dropZ]
    split
    · rename_i h
      subst h
      refine ⟨by simp; omega, ?_⟩
      have e : (0 :: l).length - (dropZ l).length = (l.length - (dropZ l).length) + 1 := by simp; omega
      rw [e, List.replicate_succ, List.cons_append, ← ih.2]
    · simp
theorem dropZ_first {l : List Int} (h : dropZ l ≠ []) : nth (dropZ l) 0 ≠ 0 := by
  induction l with
  | nil => exact absurd rfl h
  | cons x l ih =>
    rw [dropZ] at h ⊢
    split at h
    · rename_i hx; rw [if_pos hx]; exact ih h
    · rename_i hx; rw [if_neg hx, nth_cons_zero]; exact hx
theorem dropE_zeros (l : List Int) : (dropE l).length ≤ l.length ∧ l = dropE l ++ List.replicate (l.length - (dropE l).length) 0 := by
  have h := dropZ_zeros l.reverse
  unfold dropE
  rw [List.length_reverse] at h ⊢
  refine ⟨h.1, ?_⟩
  have h2 := congrArg List.reverse h.2
  rw [List.reverse_reverse, List.reverse_append, List.reverse_replicate] at h2
  exact h2
theorem nth_reverse {l : List Int} {i : Nat} (h : i < l.length) : nth l.reverse i = nth l (l.length - 1 - i) := by
  rw [nth_lt (by simpa using h), nth_lt (by omega), List.getElem_reverse]
theorem dropE_last {l : List Int} (h : dropE l ≠ []) : nth (dropE l) ((dropE l).length - 1) ≠ 0 := by
  have h1 : dropZ l.reverse ≠ [] := fun e => h (by rw [dropE, e]; rfl)
  have h2 := dropZ_first h1
  have hp : 0 < (dropZ l.reverse).length := List.length_pos_iff.2 h1
  unfold dropE
  rw [List.length_reverse, nth_reverse (by omega)]
  rw [show (dropZ l.reverse).length - 1 - ((dropZ l.reverse).length - 1) = 0 by omega]
  exact h2
theorem dropE_first {l : List Int} (h : l ≠ []) (h0 : nth l 0 ≠ 0) : dropE l ≠ [] ∧ nth (dropE l) 0 = nth l 0 := by
  have h1 := (dropE_zeros l).2
  have h2 : dropE l ≠ [] := by
    intro e
    rw [e, List.nil_append] at h1
    apply h0
    rw [h1, nth]
    simp [List.getElem?_replicate]
    split <;> simp
  refine ⟨h2, ?_⟩
  have hp : 0 < (dropE l).length := List.length_pos_iff.2 h2
  conv => rhs; rw [h1]
  rw [nth_lt hp, nth_lt (by simp; omega), List.getElem_append_left hp]
theorem trimP_trimmed (low : Int) (c : List Int) : Trimmed (trimP low c) := by
  unfold trimP
  split
  · exact ⟨fun _ => rfl, fun h => absurd rfl h, fun h => absurd rfl h⟩
  · rename_i h
    have h1 := dropE_first h (dropZ_first h)
    exact ⟨fun e => absurd e h1.1, fun _ => by rw [h1.2]; exact dropZ_first h, fun e => dropE_last e⟩
theorem evL_dropE (l : List Int) (t : Rat) : evL (dropE l) t = evL l t := by
  conv => rhs; rw [(dropE_zeros l).2]
  rw [evL_zeros_end]
theorem ev_trimP (low : Int) (c : List Int) {t : Rat} (h : t ≠ 0) : ev (trimP low c) t = t ^ low * evL c t := by
  have h1 := (dropZ_zeros c).2
  unfold trimP
  split
  · rename_i e
    rw [e, List.append_nil] at h1
    rw [h1, evL_replicate]; simp [ev, evL]
  · rw [ev, evL_dropE, Rat.zpow_add h, Rat.zpow_natCast, Rat.mul_assoc, ← evL_zeros, ← h1]
theorem n1_trimP (low : Int) (c : List Int) : n1 (trimP low c).c ≤ n1 c := by
  have h1 := congrArg n1 (dropZ_zeros c).2
  have h2 := congrArg n1 (dropE_zeros (dropZ c)).2
  rw [n1_append, n1_replicate] at h1 h2
  unfold trimP
  split
  · simp [n1]
  · simp only; omega

/-- The exponents of a polynomial lie from lo on, before hi. -/
def Within (p : LP) (lo hi : Int) : Prop := p.c = [] ∨ (lo ≤ p.low ∧ p.low + p.c.length ≤ hi)
theorem Within.mono {p : LP} {lo hi lo' hi' : Int} (h : Within p lo hi) (h1 : lo' ≤ lo) (h2 : hi ≤ hi') : Within p lo' hi' := by
  rcases h with h | h
  · exact .inl h
  · exact .inr (by omega)
theorem within_trimP (low : Int) (c : List Int) : Within (trimP low c) low (low + c.length) := by
  have h1 := (dropZ_zeros c).1
  have h2 := (dropE_zeros (dropZ c)).1
  unfold trimP
  split
  · exact .inl rfl
  · refine .inr ?_; simp only; omega

/-- A trimmed polynomial, met in a list of coefficients. -/
theorem trimP_eq {low : Int} {c : List Int} {p : LP} (hp : Trimmed p) (h : ∀ t : Rat, t ≠ 0 → ev p t = t ^ low * evL c t) : trimP low c = p :=
  ev_ext (trimP_trimmed _ _) hp fun t ht => by rw [ev_trimP low c ht, h t ht]
theorem trimP_self {p : LP} (hp : Trimmed p) : trimP p.low p.c = p := trimP_eq hp fun _ _ => rfl

def addl : List Int → List Int → Int → List Int
  | [], b, k => b.map (k * ·)
  | a, [], _ => a
  | x :: a, y :: b, k => (x + k * y) :: addl a b k
theorem evL_scale (b : List Int) (k : Int) (t : Rat) : evL (b.map (k * ·)) t = k * evL b t := by
  induction b with
  | nil => simp [evL]
  | cons x b ih => rw [List.map_cons, evL, evL, ih, Rat.intCast_mul]; grind
theorem n1_scale (b : List Int) (k : Int) : n1 (b.map (k * ·)) = k.natAbs * n1 b := by
  induction b with
  | nil => simp [n1]
  | cons x b ih => rw [List.map_cons, n1, n1, ih, Int.natAbs_mul, Nat.mul_add]
theorem evL_addl (a b : List Int) (k : Int) (t : Rat) : evL (addl a b k) t = evL a t + k * evL b t := by
  induction a generalizing b with
  | nil => rw [addl, evL_scale, evL]; grind
  | cons x a ih =>
    cases b with
    | nil => rw [addl, evL, evL]; grind; simp
    | cons y b => rw [addl, evL, evL, evL, ih, Rat.intCast_add, Rat.intCast_mul]; grind
theorem n1_addl (a b : List Int) (k : Int) : n1 (addl a b k) ≤ n1 a + k.natAbs * n1 b := by
  induction a generalizing b with
  | nil => rw [addl, n1_scale]; omega
  | cons x a ih =>
    cases b with
    | nil => rw [addl]; omega; simp
    | cons y b =>
      have h1 := ih b
      have h2 := Int.natAbs_add_le x (k * y)
      rw [Int.natAbs_mul] at h2
      rw [addl, n1, n1, n1, Nat.mul_add]; omega
theorem addl_length (a b : List Int) (k : Int) : (addl a b k).length = max a.length b.length := by
  induction a generalizing b with
  | nil => simp [addl]
  | cons x a ih =>
    cases b with
    | nil => rw [addl]; simp; simp
    | cons y b => rw [addl, List.length_cons, ih, List.length_cons, List.length_cons]; omega

def shiftl (k : Nat) (l : List Int) : List Int := List.replicate k 0 ++ l
/-- a + k b. -/
def padd (a b : LP) (k : Int) : LP :=
  if a.c = [] then trimP b.low (b.c.map (k * ·)) else if b.c = [] then trimP a.low a.c else
  trimP (min a.low b.low) (addl (shiftl (a.low - min a.low b.low).toNat a.c) (shiftl (b.low - min a.low b.low).toNat b.c) k)
theorem padd_trimmed (a b : LP) (k : Int) : Trimmed (padd a b k) := by
  unfold padd
  split
  · exact trimP_trimmed _ _
  · split <;> exact trimP_trimmed _ _
theorem pow_shift {t : Rat} (ht : t ≠ 0) {lo x : Int} (h : lo ≤ x) (r : Rat) : t ^ lo * (t ^ (x - lo).toNat * r) = t ^ x * r := by
  rw [← Rat.mul_assoc, ← Rat.zpow_natCast, ← Rat.zpow_add ht]
  congr 2
  omega
theorem ev_padd (a b : LP) (k : Int) {t : Rat} (ht : t ≠ 0) : ev (padd a b k) t = ev a t + k * ev b t := by
  unfold padd
  split
  · rename_i h
    rw [ev_trimP _ _ ht, evL_scale, ev, ev, h, evL]; grind
  · split
    · rename_i h
      rw [ev_trimP _ _ ht, ev, ev, h, evL]; grind
    · have h1 := pow_shift ht (Int.min_le_left a.low b.low) (evL a.c t)
      have h2 := pow_shift ht (Int.min_le_right a.low b.low) (evL b.c t)
      rw [ev_trimP _ _ ht, evL_addl, shiftl, shiftl, evL_zeros, evL_zeros, ev, ev, ← h1, ← h2]
      grind
theorem n1_padd (a b : LP) (k : Int) : n1 (padd a b k).c ≤ n1 a.c + k.natAbs * n1 b.c := by
  unfold padd
  split
  · have := n1_trimP b.low (b.c.map (k * ·)); rw [n1_scale] at this; omega
  · split
    · have := n1_trimP a.low a.c; omega
    · have h1 := n1_trimP (min a.low b.low) (addl (shiftl (a.low - min a.low b.low).toNat a.c) (shiftl (b.low - min a.low b.low).toNat b.c) k)
      have h2 := n1_addl (shiftl (a.low - min a.low b.low).toNat a.c) (shiftl (b.low - min a.low b.low).toNat b.c) k
      have h3 : ∀ m l, n1 (shiftl m l) = n1 l := fun m l => by rw [shiftl, n1_append, n1_replicate, Nat.zero_add]
      rw [h3, h3] at h2
      omega
theorem within_padd {a b : LP} {lo hi : Int} (ha : Within a lo hi) (hb : Within b lo hi) (k : Int) : Within (padd a b k) lo hi := by
  unfold padd
  split
  · rcases hb with h | h
    · rw [h]; exact .inl rfl
    · exact (within_trimP _ _).mono h.1 (by rw [List.length_map]; exact h.2)
  · rename_i h0
    rcases ha with h | h
    · exact absurd h h0
    · split
      · exact (within_trimP _ _).mono h.1 h.2
      · rename_i h1
        rcases hb with h2 | h2
        · exact absurd h2 h1
        · refine (within_trimP _ _).mono (by omega) ?_
          rw [addl_length]; simp only [shiftl, List.length_append, List.length_replicate]; omega

def mull : List Int → List Int → List Int
  | [], _ => []
  | x :: a, b => addl (0 :: mull a b) b x
theorem evL_mull (a b : List Int) (t : Rat) : evL (mull a b) t = evL a t * evL b t := by
  induction a with
  | nil => simp [mull, evL]
  | cons x a ih => rw [mull, evL_addl, evL, ih, evL]; grind
theorem n1_mull (a b : List Int) : n1 (mull a b) ≤ n1 a * n1 b := by
  induction a with
  | nil => simp [mull, n1]
  | cons x a ih =>
    have h := n1_addl (0 :: mull a b) b x
    rw [n1] at h
    rw [mull, n1, Nat.add_mul]; simp at h; omega
theorem mull_length (a b : List Int) (ha : a ≠ []) (hb : b ≠ []) : (mull a b).length = a.length + b.length - 1 := by
  have hp : 0 < b.length := List.length_pos_iff.2 hb
  induction a with
  | nil => exact absurd rfl ha
  | cons x a ih =>
    rw [mull, addl_length, List.length_cons, List.length_cons]
    by_cases h : a = []
    · subst h; simp [mull]; omega
    · have h2 : 0 < a.length := List.length_pos_iff.2 h
      rw [ih h]; omega
def pmul (a b : LP) : LP := trimP (a.low + b.low) (mull a.c b.c)
theorem pmul_trimmed (a b : LP) : Trimmed (pmul a b) := trimP_trimmed _ _
theorem ev_pmul (a b : LP) {t : Rat} (ht : t ≠ 0) : ev (pmul a b) t = ev a t * ev b t := by
  rw [pmul, ev_trimP _ _ ht, evL_mull, Rat.zpow_add ht, ev, ev]; grind
theorem n1_pmul (a b : LP) : n1 (pmul a b).c ≤ n1 a.c * n1 b.c := Nat.le_trans (n1_trimP _ _) (n1_mull _ _)
theorem within_pmul {a b : LP} {lo hi lo' hi' : Int} (ha : Within a lo hi) (hb : Within b lo' hi') : Within (pmul a b) (lo + lo') (hi + hi' - 1) := by
  have hz : ∀ c : List Int, (∀ t, evL c t = 0) → (trimP (a.low + b.low) c).c = [] := fun c h => by
    have : trimP (a.low + b.low) c = ⟨0, []⟩ := trimP_eq ⟨fun _ => rfl, fun h => absurd rfl h, fun h => absurd rfl h⟩ fun t _ => by rw [h]; simp [ev, evL]
    rw [this]
  rcases ha with h | h
  · exact .inl (hz _ fun t => by rw [evL_mull, h]; simp [evL])
  · rcases hb with h2 | h2
    · exact .inl (hz _ fun t => by rw [evL_mull, h2]; simp [evL])
    · by_cases e1 : a.c = []
      · exact .inl (hz _ fun t => by rw [evL_mull, e1]; simp [evL])
      · by_cases e2 : b.c = []
        · exact .inl (hz _ fun t => by rw [evL_mull, e2]; simp [evL])
        · refine (within_trimP _ _).mono (by omega) ?_
          have p1 : 0 < a.c.length := List.length_pos_iff.2 e1
          have p2 : 0 < b.c.length := List.length_pos_iff.2 e2
          rw [mull_length _ _ e1 e2]; omega

theorem rpow_add (t : Rat) (m n : Nat) : t ^ (m + n) = t ^ m * t ^ n := by
  induction n with
  | zero => simp
  | succ n ih => rw [← Nat.add_assoc, Rat.pow_succ, Rat.pow_succ, ih, Rat.mul_assoc]
theorem ev_step {cs A : List Int} {d j : Nat} {k : Int} {f : Rat → Rat} (h : ∀ t, evL cs t = f t + k * (t ^ d * evL (A.take j) t)) (h1 : d + j < cs.length) (h2 : j < A.length) (t : Rat) :
    evL (cs.set (d + j) (nth cs (d + j) + k * nth A j)) t = f t + k * (t ^ d * evL (A.take (j + 1)) t) := by
  rw [evL_set _ _ _ _ h1, evL_take_succ _ _ _ h2, h, Rat.intCast_add, Rat.intCast_mul, rpow_add]; grind
theorem ev_step1 {cs A : List Int} {d j : Nat} (h : ∀ t, evL cs t = t ^ d * evL (A.take j) t) (h1 : d + j < cs.length) (h2 : j < A.length) (t : Rat) :
    evL (cs.set (d + j) (nth cs (d + j) + nth A j)) t = t ^ d * evL (A.take (j + 1)) t := by
  rw [evL_set _ _ _ _ h1, evL_take_succ _ _ _ h2, h, Rat.intCast_add, rpow_add]; grind
theorem ev_start (u x r : Rat) (l : List Int) (t : Rat) : u = u + x * (r * evL (l.take 0) t) := by
  simp only [List.take_zero, evL]; grind
theorem n1_step {cs : List Int} {i : Nat} {x : Int} {m : Nat} (h : n1 cs ≤ m) (h1 : i < cs.length) : n1 (cs.set i (nth cs i + x)) ≤ m + x.natAbs := by
  have := n1_set cs i (nth cs i + x) h1
  have := Int.natAbs_add_le (nth cs i) x
  omega

def pterm (c e : Int) : LP := trimP e [c]
theorem pterm_trimmed (c e : Int) : Trimmed (pterm c e) := trimP_trimmed _ _
theorem ev_pterm (c e : Int) {t : Rat} (ht : t ≠ 0) : ev (pterm c e) t = c * t ^ e := by
  rw [pterm, ev_trimP _ _ ht, evL, evL]; grind
theorem n1_pterm (c e : Int) : n1 (pterm c e).c ≤ c.natAbs := by have := n1_trimP e [c]; simpa [n1, pterm] using this
theorem within_pterm (c e : Int) : Within (pterm c e) e (e + 1) := within_trimP _ _
def pzero : LP := ⟨0, []⟩
theorem pzero_trimmed : Trimmed pzero := ⟨fun _ => rfl, fun h => absurd rfl h, fun h => absurd rfl h⟩
theorem ev_pzero (t : Rat) : ev pzero t = 0 := by simp [ev, evL, pzero]
theorem within_pzero (lo hi : Int) : Within pzero lo hi := .inl rfl

end Go.Proofs.Ytmcecmnbdcbehaa

namespace Go.Proofs.Ytmcecmnbdcbehaa
open Go.RowKit Go.Sl

def nthp (ps : List LP) (i : Nat) : LP := ps.getD i ⟨0, []⟩
def nthm (m : List (List LP)) (i : Nat) : List LP := m.getD i []
theorem nthp_lt {ps : List LP} {i : Nat} (h : i < ps.length) : nthp ps i = ps[i] := by simp [nthp, h]
theorem nthm_lt {m : List (List LP)} {i : Nat} (h : i < m.length) : nthm m i = m[i] := by simp [nthm, h]
theorem nthp_set {ps : List LP} {i j : Nat} {q : LP} (h : i < ps.length) : nthp (ps.set j q) i = if i = j then q else nthp ps i := by
  rw [nthp_lt (by simp; exact h), nthp_lt h, List.getElem_set]
  by_cases e : j = i
  · rw [if_pos e, if_pos e.symm]
  · rw [if_neg e, if_neg (Ne.symm e)]
theorem nthm_set {m : List (List LP)} {i j : Nat} {q : List LP} (h : i < m.length) : nthm (m.set j q) i = if i = j then q else nthm m i := by
  rw [nthm_lt (by simp; exact h), nthm_lt h, List.getElem_set]
  by_cases e : j = i
  · rw [if_pos e, if_pos e.symm]
  · rw [if_neg e, if_neg (Ne.symm e)]
theorem nthv_set {vs : List Value} {i j : Nat} {q : Value} (h : i < vs.length) : nthv (vs.set j q) i = if i = j then q else nthv vs i := by
  rw [nthv_lt (by simp; exact h), nthv_lt h, List.getElem_set]
  by_cases e : j = i
  · rw [if_pos e, if_pos e.symm]
  · rw [if_neg e, if_neg (Ne.symm e)]

/-- The cells of a row of polynomials: the lowest exponent and the slice of coefficients of each. -/
def pcs : List Value → List LP → List Value
  | u :: us, p :: ps => .int .i64 p.low :: u :: pcs us ps
  | _, _ => []
theorem pcs_length : ∀ (us : List Value) (ps : List LP), us.length = ps.length → (pcs us ps).length = ps.length * 2
  | [], [], _ => rfl
  | u :: us, p :: ps, h => by
    have := pcs_length us ps (by simpa using h)
    simp only [pcs, List.length_cons, this]; omega
theorem pcs_low : ∀ (us : List Value) (ps : List LP), us.length = ps.length → ∀ j, j < ps.length → (pcs us ps)[j * 2]? = some (.int .i64 (nthp ps j).low)
  | [], [], _, j, hj => absurd hj (by simp)
  | u :: us, p :: ps, h, 0, hj => by simp [pcs, nthp]
  | u :: us, p :: ps, h, j + 1, hj => by
    have := pcs_low us ps (by simpa using h) j (by simpa using hj)
    rw [show (j + 1) * 2 = j * 2 + 1 + 1 by omega]
    simp only [pcs, List.getElem?_cons_succ, this, nthp, List.getD_cons_succ]
theorem pcs_c : ∀ (us : List Value) (ps : List LP), us.length = ps.length → ∀ j, j < ps.length → (pcs us ps)[j * 2 + 1]? = some (nthv us j)
  | [], [], _, j, hj => absurd hj (by simp)
  | u :: us, p :: ps, h, 0, hj => by simp [pcs, nthv]
  | u :: us, p :: ps, h, j + 1, hj => by
    have := pcs_c us ps (by simpa using h) j (by simpa using hj)
    rw [show (j + 1) * 2 + 1 = j * 2 + 1 + 1 + 1 by omega]
    simp only [pcs, List.getElem?_cons_succ, this, nthv, List.getD_cons_succ]
theorem pcs_set : ∀ (us : List Value) (ps : List LP), us.length = ps.length → ∀ j, j < ps.length → ∀ (q : LP) (v : Value), ((pcs us ps).set (j * 2) (.int .i64 q.low)).set (j * 2 + 1) v = pcs (us.set j v) (ps.set j q)
  | [], [], _, j, hj, _, _ => absurd hj (by simp)
  | u :: us, p :: ps, h, 0, hj, q, v => by simp [pcs]
  | u :: us, p :: ps, h, j + 1, hj, q, v => by
    have := pcs_set us ps (by simpa using h) j (by simpa using hj) q v
    rw [show (j + 1) * 2 = j * 2 + 1 + 1 by omega]
    simp only [pcs, List.set_cons_succ, this]
theorem pcs_setC : ∀ (us : List Value) (ps : List LP), us.length = ps.length → ∀ j, j < ps.length → ∀ (v : Value), (pcs us ps).set (j * 2 + 1) v = pcs (us.set j v) ps
  | [], [], _, j, hj, _ => absurd hj (by simp)
  | u :: us, p :: ps, h, 0, hj, v => by simp [pcs]
  | u :: us, p :: ps, h, j + 1, hj, v => by
    have := pcs_setC us ps (by simpa using h) j (by simpa using hj) v
    rw [show (j + 1) * 2 + 1 = j * 2 + 1 + 1 + 1 by omega]
    simp only [pcs, List.set_cons_succ, this]
/-- A row of polynomials that may be read. -/
structure PRead (W : World) (v : Value) (us : List Value) (ps : List LP) : Prop where
  sl : Sl W v 2 (pcs us ps)
  len : us.length = ps.length
  each : ∀ j, j < ps.length → Ints W (nthv us j) (nthp ps j).c
/-- A row of polynomials in a block of the call's own; their coefficients lie in blocks of the call's own, too. -/
structure PRow (W : World) (B : Nat) (v : Value) (us : List Value) (ps : List LP) : Prop where
  own : Own W B 27 2 v (pcs us ps)
  len : us.length = ps.length
  each : ∀ j, j < ps.length → OwnI W B (nthv us j) (nthp ps j).c
section
variable {W W' : World} {B : Nat} {v : Value} {us : List Value} {ps : List LP}
theorem PRow.read (h : PRow W B v us ps) : PRead W v us ps := ⟨h.own.sl, h.len, fun j hj => (h.each j hj).ints⟩
theorem PRead.isSl (h : PRead W v us ps) : IsSl v := h.sl.isSl
theorem PRead.vlen (h : PRead W v us ps) : Go.Sl.vlen v = ps.length := by
  have h1 := h.sl.2.1
  rw [pcs_length us ps h.len] at h1
  omega
theorem PRead.low (h : PRead W v us ps) {j : Nat} (hj : j < ps.length) : W.cell? (vat v (j * 2)) = some (.int .i64 (nthp ps j).low) :=
  h.sl.2.2 _ _ (pcs_low us ps h.len j hj)
theorem PRead.c (h : PRead W v us ps) {j : Nat} (hj : j < ps.length) : W.cell? (vat v (j * 2 + 1)) = some (nthv us j) :=
  h.sl.2.2 _ _ (pcs_c us ps h.len j hj)
theorem PRead.below (h : PRead W v us ps) (hb : Below W.heap.size W W') : PRead W' v us ps := ⟨h.sl.below hb, h.len, fun j hj => (h.each j hj).below hb⟩
theorem PRow.isSl (h : PRow W B v us ps) : IsSl v := h.read.isSl
theorem PRow.vlen (h : PRow W B v us ps) : Go.Sl.vlen v = ps.length := h.read.vlen
theorem PRow.below (h : PRow W B v us ps) (hb : Below W.heap.size W W') : PRow W' B v us ps := ⟨h.own.below hb, h.len, fun j hj => (h.each j hj).below hb⟩
theorem PRow.low' (h : PRow W B v us ps) {B' : Nat} (hB : B' ≤ B) : PRow W B' v us ps := ⟨h.own.low hB, h.len, fun j hj => (h.each j hj).low hB⟩
theorem PRow.frozen0 (h : PRow W B v us ps) {j : Nat} (hj : j < ps.length) : W.frozen? (vat v (j * 2)) = false := h.own.frozen (by rw [pcs_length us ps h.len]; omega)
theorem PRow.frozen1 (h : PRow W B v us ps) {j : Nat} (hj : j < ps.length) : W.frozen? (vat v (j * 2 + 1)) = false := h.own.frozen (by rw [pcs_length us ps h.len]; omega)
theorem PRow.rowAt (h : PRow W B v us ps) (h0 : 0 < ps.length) : Go.Sl.row v = some (vblk v) := row_some (by have := h.isSl.le; have := h.vlen; omega)
theorem PRow.blk (h : PRow W B v us ps) (h0 : 0 < ps.length) : B ≤ vblk v ∧ vblk v < W.heap.size := h.own.lt _ (h.rowAt h0)
/-- The block's object: cells of polynomials. -/
theorem PRow.obj (h : PRow W B v us ps) (h0 : 0 < ps.length) : ∃ cur, W.heap[vblk v]? = some (.cells cur 27 (0, 0)) := by
  obtain ⟨cur, hc, _⟩ := h.own.getCell (j := 0) (by rw [pcs_length us ps h.len]; omega)
  exact ⟨cur, hc⟩
theorem poly_ne_int : (27 : TypeId) ≠ 3 := by decide
theorem rows_ne_poly : (28 : TypeId) ≠ 27 := by decide
theorem rows_ne_int : (28 : TypeId) ≠ 3 := by decide
/-- Whoever's own block of another type it is, it is another block. -/
theorem Own.ne_of_type {e e' : TypeId} (hne : e ≠ e') {s : Nat} {u : Value} {cs : List Value} (h : Own W B e s u cs) {b : Nat} {cur : Array Value} (hb : W.heap[b]? = some (.cells cur e' (0, 0))) : ∀ k, Go.Sl.row u = some k → b ≠ k := by
  intro k hk e1
  obtain ⟨h0, rfl⟩ := row_eq hk
  obtain ⟨_, _, cur', hh, _⟩ := h.2.2 h0
  subst e1
  rw [hh] at hb
  injection hb with hb
  injection hb with h1 h2
  exact hne h2
/-- A store of a polynomial. -/
theorem PRow.set (h : PRow W B v us ps) {j : Nat} (hj : j < ps.length) {u : Value} {q : LP} (hu : OwnI W B u q.c) :
    PRow ((W.setCell (vat v (j * 2)) (.int .i64 q.low)).setCell (vat v (j * 2 + 1)) u) B v (us.set j u) (ps.set j q) := by
  have hl := pcs_length us ps h.len
  obtain ⟨cur, hcur⟩ := h.obj (by omega)
  have keep : ∀ {x : Value} {xs : List Int}, OwnI W B x xs → OwnI ((W.setCell (vat v (j * 2)) (.int .i64 q.low)).setCell (vat v (j * 2 + 1)) u) B x xs := by
    intro x xs hx
    have hne := Own.ne_of_type (Ne.symm poly_ne_int) hx hcur
    exact (hx.setOther (by simpa [vat_block] using hne) _).setOther (by simpa [vat_block] using hne) _
  refine ⟨?_, by simp [h.len], fun i hi => ?_⟩
  · rw [← pcs_set us ps h.len j hj q u]
    exact (h.own.set (by omega) _).set (by rw [List.length_set]; omega) _
  · rw [List.length_set] at hi
    rw [nthp_set hi, nthv_set (by rw [h.len]; exact hi)]
    by_cases e : i = j
    · rw [if_pos e, if_pos e]; exact keep hu
    · rw [if_neg e, if_neg e]; exact keep (h.each i hi)
/-- A store of coefficients. -/
theorem PRow.setC (h : PRow W B v us ps) {j : Nat} (hj : j < ps.length) {u : Value} (hu : OwnI W B u (nthp ps j).c) :
    PRow (W.setCell (vat v (j * 2 + 1)) u) B v (us.set j u) ps := by
  have hl := pcs_length us ps h.len
  obtain ⟨cur, hcur⟩ := h.obj (by omega)
  have keep : ∀ {x : Value} {xs : List Int}, OwnI W B x xs → OwnI (W.setCell (vat v (j * 2 + 1)) u) B x xs := by
    intro x xs hx
    have hne := Own.ne_of_type (Ne.symm poly_ne_int) hx hcur
    exact hx.setOther (by simpa [vat_block] using hne) _
  refine ⟨?_, by simp [h.len], fun i hi => ?_⟩
  · rw [← pcs_setC us ps h.len j hj u]
    exact h.own.set (by omega) _
  · rw [nthv_set (by rw [h.len]; exact hi)]
    by_cases e : i = j
    · subst e; rw [if_pos rfl]; exact keep hu
    · rw [if_neg e]; exact keep (h.each i hi)
theorem PRow.setOther (h : PRow W B v us ps) {p : Addr} (hp : ∀ k, Go.Sl.row v = some k → p.block ≠ k) {cur : Array Value} {e : TypeId} (he : e ≠ 3) (hb : W.heap[p.block]? = some (.cells cur e (0, 0))) (x : Value) : PRow (W.setCell p x) B v us ps :=
  ⟨h.own.setOther hp x, h.len, fun j hj => (h.each j hj).setOther (Own.ne_of_type (Ne.symm he) (h.each j hj) hb) x⟩
end

/-- A matrix of polynomials: the first rows (as many as m has) are made, each in a block of its own. -/
structure PMat (W : World) (B : Nat) (v : Value) (vs : List Value) (m : List (List LP)) : Prop where
  own : Own W B 28 1 v vs
  len : m.length ≤ vs.length
  row : ∀ i, i < m.length → ∃ us, PRow W B (nthv vs i) us (nthm m i)
  pos : ∀ i, i < m.length → 0 < (nthm m i).length
  each : ∀ i j, i < m.length → j < m.length → i ≠ j → vblk (nthv vs i) ≠ vblk (nthv vs j)
section
variable {W W' : World} {B : Nat} {v : Value} {vs : List Value} {m : List (List LP)}
theorem PMat.isSl (h : PMat W B v vs m) : IsSl v := h.own.isSl
theorem PMat.vlen (h : PMat W B v vs m) : Go.Sl.vlen v = vs.length := by have := h.own.2.1; omega
theorem PMat.cell (h : PMat W B v vs m) {i : Nat} (hi : i < vs.length) : W.cell? (vat v i) = some (nthv vs i) := by rw [nthv_lt hi]; exact h.own.cell hi
theorem PMat.below (h : PMat W B v vs m) (hb : Below W.heap.size W W') : PMat W' B v vs m :=
  ⟨h.own.below hb, h.len, fun i hi => let ⟨us, k⟩ := h.row i hi; ⟨us, k.below hb⟩, h.pos, h.each⟩
theorem PMat.low' (h : PMat W B v vs m) {B' : Nat} (hB : B' ≤ B) : PMat W B' v vs m :=
  ⟨h.own.low hB, h.len, fun i hi => let ⟨us, k⟩ := h.row i hi; ⟨us, k.low' hB⟩, h.pos, h.each⟩
theorem PMat.frozen (h : PMat W B v vs m) {i : Nat} (hi : i < vs.length) : W.frozen? (vat v i) = false := h.own.frozen hi
/-- A store of a polynomial into a row. -/
theorem PMat.set (h : PMat W B v vs m) {i j : Nat} (hi : i < m.length) (hj : j < (nthm m i).length) {u : Value} {q : LP} (hu : OwnI W B u q.c) :
    PMat ((W.setCell (vat (nthv vs i) (j * 2)) (.int .i64 q.low)).setCell (vat (nthv vs i) (j * 2 + 1)) u) B v vs (m.set i ((nthm m i).set j q)) := by
  obtain ⟨us, hr⟩ := h.row i hi
  obtain ⟨cur, hcur⟩ := hr.obj (by omega)
  have hr2 := hr.set hj hu
  refine ⟨(h.own.setOther (by simpa [vat_block] using Own.ne_of_type rows_ne_poly h.own hcur) _).setOther (by simpa [vat_block] using Own.ne_of_type rows_ne_poly h.own hcur) _, by rw [List.length_set]; exact h.len, fun k hk => ?_, fun k hk => ?_, fun k l hk hl => ?_⟩
  · rw [List.length_set] at hk
    rw [nthm_set hk]
    by_cases e : k = i
    · subst e; rw [if_pos rfl]; exact ⟨_, hr2⟩
    · rw [if_neg e]
      obtain ⟨us', hk'⟩ := h.row k hk
      have hne : ∀ b, Go.Sl.row (nthv vs k) = some b → vblk (nthv vs i) ≠ b := by
        intro b hb
        rw [hk'.rowAt (h.pos k hk)] at hb
        rw [← Option.some.inj hb]
        exact h.each i k hi hk (Ne.symm e)
      have h1 := hk'.setOther (p := vat (nthv vs i) (j * 2)) hne poly_ne_int hcur (.int .i64 q.low)
      have hcur2 : (W.setCell (vat (nthv vs i) (j * 2)) (.int .i64 q.low)).heap[vblk (nthv vs i)]? = some (.cells (cur.setIfInBounds (voff (nthv vs i) + j * 2) (.int .i64 q.low)) 27 (0, 0)) := by
        simp [World.setCell, vat, Array.getElem?_modify, hcur]
      exact ⟨us', h1.setOther (p := vat (nthv vs i) (j * 2 + 1)) hne poly_ne_int hcur2 u⟩
  · rw [List.length_set] at hk
    rw [nthm_set hk]
    split
    · rw [List.length_set]; exact h.pos i hi
    · exact h.pos k hk
  · rw [List.length_set] at hk hl; exact h.each k l hk hl
/-- A store of coefficients into a row. -/
theorem PMat.setC (h : PMat W B v vs m) {i j : Nat} (hi : i < m.length) (hj : j < (nthm m i).length) {u : Value} (hu : OwnI W B u (nthp (nthm m i) j).c) :
    PMat (W.setCell (vat (nthv vs i) (j * 2 + 1)) u) B v vs m := by
  obtain ⟨us, hr⟩ := h.row i hi
  obtain ⟨cur, hcur⟩ := hr.obj (by omega)
  have hr2 := hr.setC hj hu
  refine ⟨h.own.setOther (by simpa [vat_block] using Own.ne_of_type rows_ne_poly h.own hcur) _, h.len, fun k hk => ?_, h.pos, h.each⟩
  by_cases e : k = i
  · subst e; exact ⟨_, hr2⟩
  · obtain ⟨us', hk'⟩ := h.row k hk
    have hne : ∀ b, Go.Sl.row (nthv vs k) = some b → vblk (nthv vs i) ≠ b := by
      intro b hb
      rw [hk'.rowAt (h.pos k hk)] at hb
      rw [← Option.some.inj hb]
      exact h.each i k hi hk (Ne.symm e)
    exact ⟨us', hk'.setOther (p := vat (nthv vs i) (j * 2 + 1)) hne poly_ne_int hcur u⟩
/-- The next row is made. -/
theorem PMat.setRow (h : PMat W B v vs m) {r : Value} {us : List Value} {ps : List LP} (hl : m.length < vs.length) (hr : PRow W B r us ps) (h0 : 0 < ps.length) (hnew : ∀ i, i < m.length → vblk (nthv vs i) ≠ vblk r) :
    PMat (W.setCell (vat v m.length) r) B v (vs.set m.length r) (m ++ [ps]) := by
  obtain ⟨cur, hcur, _⟩ := h.own.getCell hl
  have hrv : Go.Sl.row v = some (vblk v) := row_some (h.own.cap_of hl)
  have keep : ∀ {x us' ps'}, PRow W B x us' ps' → PRow (W.setCell (vat v m.length) r) B x us' ps' := by
    intro x us' ps' hx
    exact hx.setOther (p := vat v m.length) (Own.ne_of_type (Ne.symm rows_ne_poly) hx.own hcur) rows_ne_int hcur r
  have hn : ∀ i, i < m.length → nthm (m ++ [ps]) i = nthm m i ∧ nthv (vs.set m.length r) i = nthv vs i := by
    intro i hi
    refine ⟨by simp [nthm, List.getElem?_append, hi], ?_⟩
    rw [nthv_set (by omega), if_neg (by omega)]
  have hlast : nthm (m ++ [ps]) m.length = ps ∧ nthv (vs.set m.length r) m.length = r := by
    refine ⟨by simp [nthm], ?_⟩
    rw [nthv_set hl, if_pos rfl]
  refine ⟨h.own.set hl r, by simp; omega, fun i hi => ?_, fun i hi => ?_, fun i j hi hj hij => ?_⟩
  · simp only [List.length_append, List.length_cons, List.length_nil] at hi
    rcases Nat.lt_or_ge i m.length with hlt | hge
    · rw [(hn i hlt).1, (hn i hlt).2]
      obtain ⟨us', hk'⟩ := h.row i hlt
      exact ⟨us', keep hk'⟩
    · obtain rfl : i = m.length := by omega
      rw [hlast.1, hlast.2]; exact ⟨us, keep hr⟩
  · simp only [List.length_append, List.length_cons, List.length_nil] at hi
    rcases Nat.lt_or_ge i m.length with hlt | hge
    · rw [(hn i hlt).1]; exact h.pos i hlt
    · obtain rfl : i = m.length := by omega
      rw [hlast.1]; exact h0
  · simp only [List.length_append, List.length_cons, List.length_nil] at hi hj
    rcases Nat.lt_or_ge i m.length with hi1 | hi1 <;> rcases Nat.lt_or_ge j m.length with hj1 | hj1
    · rw [(hn i hi1).2, (hn j hj1).2]; exact h.each i j hi1 hj1 hij
    · obtain rfl : j = m.length := by omega
      rw [(hn i hi1).2, hlast.2]; exact hnew i hi1
    · obtain rfl : i = m.length := by omega
      rw [(hn j hj1).2, hlast.2]; exact Ne.symm (hnew j hj1)
    · omega
end

end Go.Proofs.Ytmcecmnbdcbehaa

namespace Go.Proofs.Ytmcecmnbdcbehaa
open Go.RowKit Go.Sl

/-- Two neighbours exchanged. -/
def swapAt (l : List Int) (i : Nat) : List Int := (l.set i (nth l (i + 1))).set (i + 1) (nth l i)
theorem swapAt_length (l : List Int) (i : Nat) : (swapAt l i).length = l.length := by simp [swapAt]
theorem nth_map (f : Int → Int) (l : List Int) (i : Nat) (h : i < l.length) : nth (l.map f) i = f (nth l i) := by
  rw [nth_lt (by simpa using h), nth_lt h, List.getElem_map]
theorem swapAt_map (f : Int → Int) (l : List Int) (i : Nat) (h : i + 1 < l.length) : swapAt (l.map f) i = (swapAt l i).map f := by
  unfold swapAt
  rw [nth_map f l (i + 1) h, nth_map f l i (by omega), List.map_set, List.map_set]
theorem swapAt_cons (a : Int) (l : List Int) (i : Nat) : swapAt (a :: l) (i + 1) = a :: swapAt l i := by simp [swapAt, nth]
theorem swapAt_perm (l : List Int) : ∀ i, i + 1 < l.length → (swapAt l i).Perm l := by
  induction l with
  | nil => intro i h; simp at h
  | cons a l ih =>
    intro i h
    cases i with
    | zero =>
      cases l with
      | nil => simp at h
      | cons b l => simp only [swapAt, nth]; simp; exact List.Perm.swap _ _ _
    | succ i =>
      rw [swapAt_cons]
      exact (ih i (by simpa using h)).cons a
theorem nth_swapAt (l : List Int) (i j : Nat) (h : i + 1 < l.length) : nth (swapAt l i) j = if j = i + 1 then nth l i else if j = i then nth l (i + 1) else nth l j := by
  unfold swapAt
  by_cases h1 : j = i + 1
  · subst h1; rw [if_pos rfl, nth_set_same _ (by simpa using h)]
  · rw [if_neg h1, nth_set_other _ (by omega)]
    by_cases h2 : j = i
    · subst h2; rw [if_pos rfl, nth_set_same _ (by omega)]
    · rw [if_neg h2, nth_set_other _ (by omega)]
end Go.Proofs.Ytmcecmnbdcbehaa

namespace Go.Proofs.Ytmcecmnbdcbehaa
open Go.RowKit Go.Sl

/-- The values i and i + 1 exchanged. -/
def swV (i : Nat) (x : Int) : Int := if x = i then (i : Int) + 1 else if x = (i : Int) + 1 then i else x
def swapV (a : List Int) (i : Nat) : List Int := a.map (swV i)
theorem swapV_length (a : List Int) (i : Nat) : (swapV a i).length = a.length := by simp [swapV]
theorem swV_swV (i : Nat) (x : Int) : swV i (swV i x) = x := by unfold swV; grind
theorem swapV_swapV (a : List Int) (i : Nat) : swapV (swapV a i) i = a := by
  unfold swapV
  have h : ∀ x ∈ a, (swV i ∘ swV i) x = x := fun x _ => swV_swV i x
  rw [List.map_map, List.map_congr_left h, List.map_id']
theorem nth_swapV (a : List Int) (i q : Nat) (h : q < a.length) : nth (swapV a i) q = swV i (nth a q) := nth_map _ a q h
/-- The place exchanged. -/
def swN (i q : Nat) : Nat := if q = i then i + 1 else if q = i + 1 then i else q
theorem swN_lt {i q n : Nat} (hi : i + 1 < n) (hq : q < n) : swN i q < n := by unfold swN; grind
theorem nth_swapAt' (l : List Int) (i j : Nat) (h : i + 1 < l.length) : nth (swapAt l i) j = nth l (swN i j) := by
  rw [nth_swapAt l i j h]
  unfold swN
  by_cases h1 : j = i
  · subst h1; rw [if_neg (by omega), if_pos rfl, if_pos rfl]
  · by_cases h2 : j = i + 1
    · rw [if_pos h2, if_neg h1, if_pos h2]
    · rw [if_neg h2, if_neg h1, if_neg h1, if_neg h2]
theorem swapAt_swapAt (l : List Int) (i : Nat) (h : i + 1 < l.length) : swapAt (swapAt l i) i = l := by
  refine ext_nth (by simp [swapAt_length]) fun k _ => ?_
  rw [nth_swapAt' _ _ _ (by rw [swapAt_length]; exact h), nth_swapAt' _ _ _ h]
  congr 1
  unfold swN; grind

/-- A permutation of degree n. -/
structure Pn (n : Nat) (a : List Int) : Prop where
  perm : IsPerm a
  len : a.length = n
theorem Pn.range {n : Nat} {a : List Int} (h : Pn n a) {q : Nat} (hq : q < n) : 0 ≤ nth a q ∧ nth a q < n := by
  have := h.perm.range _ (nth_mem (xs := a) (k := q) (by rw [h.len]; exact hq))
  rw [h.len] at this; exact this
theorem pn_iota {n : Nat} (h : n ≤ 1000) : Pn n (iota n) := ⟨isPerm_iota h, iota_length n⟩
theorem Pn.back {n : Nat} {a : List Int} (h : Pn n a) : Pn n (backL a) := ⟨h.perm.back, by rw [backL_length, h.len]⟩
theorem Pn.then {n : Nat} {a b : List Int} (h : Pn n a) (k : Pn n b) : Pn n (thenL a b) := ⟨h.perm.then k.perm (by rw [h.len, k.len]), by rw [thenL_length, h.len]⟩
theorem swapV_iota {n i : Nat} (h : i + 1 < n) : swapV (iota n) i = swapAt (iota n) i := by
  refine ext_nth (by rw [swapV_length, swapAt_length]) fun k hk => ?_
  rw [swapV_length, iota_length] at hk
  rw [nth_swapV _ _ _ (by rw [iota_length]; exact hk), nth_swapAt' _ _ _ (by rw [iota_length]; exact h), nth_iota _ _ hk, nth_iota _ _ (swN_lt h hk)]
  unfold swV swN; grind
theorem Pn.swapAt {n : Nat} {a : List Int} (h : Pn n a) {i : Nat} (hi : i + 1 < n) : Pn n (Go.Proofs.Ytmcecmnbdcbehaa.swapAt a i) := by
  have hl := swapAt_length a i
  refine ⟨⟨?_, by rw [hl]; exact h.perm.small⟩, by rw [hl, h.len]⟩
  rw [hl]
  exact (swapAt_perm a i (by rw [h.len]; exact hi)).trans h.perm.perm
theorem Pn.swapV {n : Nat} {a : List Int} (h : Pn n a) {i : Nat} (hi : i + 1 < n) : Pn n (Go.Proofs.Ytmcecmnbdcbehaa.swapV a i) := by
  have hl := swapV_length a i
  refine ⟨⟨?_, by rw [hl]; exact h.perm.small⟩, by rw [hl, h.len]⟩
  rw [hl, h.len]
  have h1 : (Go.Proofs.Ytmcecmnbdcbehaa.swapV a i).Perm (Go.Proofs.Ytmcecmnbdcbehaa.swapV (iota n) i) := by have := h.perm.perm; rw [h.len] at this; exact this.map _
  rw [swapV_iota hi] at h1
  exact h1.trans (swapAt_perm _ i (by rw [iota_length]; exact hi))

/-- Where a value stands. -/
theorem back_at {n : Nat} {a : List Int} (h : Pn n a) {q : Nat} (hq : q < n) : nth (backL a) (nth a q).toNat = q := backTo_hit h.perm _ (Nat.le_refl _) q (by rw [h.len]; exact hq)
theorem hit {n : Nat} {a : List Int} (h : Pn n a) {x : Nat} (hx : x < n) : ∃ q, q < n ∧ nth a q = x ∧ nth (backL a) x = q := by
  obtain ⟨q, hq, e⟩ := h.perm.hit (k := x) (by rw [h.len]; exact hx)
  rw [h.len] at hq
  have := back_at h hq
  rw [e, Int.toNat_natCast] at this
  exact ⟨q, hq, e, this⟩
theorem back_swapV {n : Nat} {a : List Int} (h : Pn n a) {i : Nat} (hi : i + 1 < n) : backL (swapV a i) = swapAt (backL a) i := by
  refine ext_nth (by rw [backL_length, swapV_length, swapAt_length, backL_length]) fun x hx => ?_
  rw [backL_length, swapV_length, h.len] at hx
  obtain ⟨q, hq, e, e2⟩ := hit (h.swapV hi) hx
  rw [nth_swapV _ _ _ (by rw [h.len]; exact hq)] at e
  rw [e2, nth_swapAt' _ _ _ (by rw [backL_length, h.len]; exact hi)]
  have e3 : nth a q = ((swN i x : Nat) : Int) := by
    have := congrArg (swV i) e
    rw [swV_swV] at this
    rw [this]
    unfold swV swN; grind
  have := back_at h hq
  rw [e3, Int.toNat_natCast] at this
  exact this.symm
theorem back_back {n : Nat} {a : List Int} (h : Pn n a) : backL (backL a) = a := by
  refine ext_nth (by simp [backL_length]) fun x hx => ?_
  rw [backL_length, backL_length, h.len] at hx
  obtain ⟨q, hq, e, e2⟩ := hit h.back hx
  rw [e2]
  have hr := h.range hx
  obtain ⟨y, hy⟩ : ∃ y : Nat, nth a x = y := ⟨(nth a x).toNat, by omega⟩
  have h3 := back_at h hx
  rw [hy, Int.toNat_natCast] at h3
  have : q = y := by
    have hyn : y < n := by omega
    exact h.back.perm.inj (by rw [backL_length, h.len]; exact hq) (by rw [backL_length, h.len]; exact hyn) (by rw [e, h3])
  rw [hy, this]
theorem back_swapAt {n : Nat} {b : List Int} (h : Pn n b) {i : Nat} (hi : i + 1 < n) : backL (swapAt b i) = swapV (backL b) i := by
  have h1 := back_swapV h.back hi
  rw [back_back h] at h1
  rw [← h1, back_back (h.back.swapV hi)]
theorem swap_comm {n : Nat} {a : List Int} (h : Pn n a) {i : Nat} (hi : i + 1 < n) (j : Nat) : swapAt (swapV a j) i = swapV (swapAt a i) j := swapAt_map (swV j) a i (by rw [h.len]; exact hi)

/-- The crossing i can be taken away at the beginning; it can be added at the end. -/
def dn (b : List Int) (i : Nat) : Prop := nth b (i + 1) < nth b i
def up (a : List Int) (i : Nat) : Prop := nth (backL a) i < nth (backL a) (i + 1)
theorem dn_or {n : Nat} {b : List Int} (h : Pn n b) {i : Nat} (hi : i + 1 < n) : dn b i ∨ nth b i < nth b (i + 1) := by
  unfold dn
  rcases Int.lt_trichotomy (nth b i) (nth b (i + 1)) with h1 | h1 | h1
  · exact .inr h1
  · have := h.perm.inj (by rw [h.len]; omega) (by rw [h.len]; exact hi) h1; omega
  · exact .inl h1

/-! Inversions. -/
def inv : List Int → Nat
  | [] => 0
  | x :: t => less t x + inv t
theorem less_cons (t : List Int) (x y : Int) : less (y :: t) x = (if y < x then 1 else 0) + less t x := by
  unfold less
  rw [List.filter_cons]
  by_cases h : y < x
  · simp [h]; omega
  · simp [h]
theorem inv_swapAt (l : List Int) : ∀ i, i + 1 < l.length → nth l (i + 1) < nth l i → inv (swapAt l i) + 1 = inv l := by
  induction l with
  | nil => intro i h; simp at h
  | cons a l ih =>
    intro i h hd
    cases i with
    | zero =>
      cases l with
      | nil => simp at h
      | cons b t =>
        have hb : b < a := by simpa [nth] using hd
        have e : swapAt (a :: b :: t) 0 = b :: a :: t := by simp [swapAt, nth]
        rw [e, inv, inv, inv, inv, less_cons, less_cons, if_pos hb, if_neg (by omega)]
        omega
    | succ i =>
      have hi : i + 1 < l.length := by simpa using h
      rw [swapAt_cons, inv, inv, less_perm (swapAt_perm l i hi) a]
      have := ih i hi (by simpa [nth] using hd)
      omega
theorem inv_dn {n : Nat} {b : List Int} (h : Pn n b) {i : Nat} (hi : i + 1 < n) (hd : dn b i) : inv (swapAt b i) + 1 = inv b := inv_swapAt b i (by rw [h.len]; exact hi) hd

/-- The values i and i + 1 are not both there: their exchange turns no order. -/
theorem less_swV {i : Nat} (t : List Int) (x : Int) (h : ∀ y ∈ t, (swV i y < swV i x ↔ y < x)) : less (t.map (swV i)) (swV i x) = less t x := by
  induction t with
  | nil => rfl
  | cons y t ih =>
    rw [List.map_cons, less_cons, less_cons, ih (fun z hz => h z (by simp [hz]))]
    have := h y (by simp)
    by_cases hy : y < x
    · rw [if_pos hy, if_pos (this.2 hy)]
    · rw [if_neg hy, if_neg (fun e => hy (this.1 e))]
theorem swV_lt {i : Nat} {x y : Int} (h : ¬ (x = i ∧ y = (i : Int) + 1)) (k : ¬ (x = (i : Int) + 1 ∧ y = i)) : swV i y < swV i x ↔ y < x := by unfold swV; grind
theorem inv_none {i : Nat} (t : List Int) : ((i : Int) ∉ t ∨ (i : Int) + 1 ∉ t) → inv (t.map (swV i)) = inv t := by
  induction t with
  | nil => intro _; rfl
  | cons x t ih =>
    intro h
    have h' : (i : Int) ∉ t ∨ (i : Int) + 1 ∉ t := by
      rcases h with h | h
      · exact .inl (fun m => h (by simp [m]))
      · exact .inr (fun m => h (by simp [m]))
    rw [List.map_cons, inv, inv, ih h', less_swV]
    intro y hy
    refine swV_lt (fun e => ?_) (fun e => ?_)
    · rcases h with h | h
      · exact h (by simp [e.1])
      · exact h (by rw [← e.2]; simp [hy])
    · rcases h with h | h
      · exact h (by rw [← e.2]; simp [hy])
      · exact h (by simp [e.1])
theorem less_one {i : Nat} (v : List Int) : v.Nodup → (i : Int) ∉ v → (i : Int) + 1 ∈ v → less (v.map (swV i)) ((i : Int) + 1) = less v i + 1 := by
  induction v with
  | nil => intro _ _ h; cases h
  | cons y v ih =>
    intro hn hi hm
    have hn' := List.nodup_cons.1 hn
    have hiv : (i : Int) ∉ v := fun h => hi (by simp [h])
    have hyi : y ≠ i := fun h => hi (by simp [h])
    rw [List.map_cons, less_cons, less_cons]
    by_cases e : y = (i : Int) + 1
    · have hnv : (i : Int) + 1 ∉ v := by rw [← e]; exact hn'.1
      have h1 : less (v.map (swV i)) ((i : Int) + 1) = less v i := by
        have h2 : v.map (swV i) = v := by
          have : ∀ z ∈ v, swV i z = z := fun z hz => by
            have z1 : z ≠ i := fun e => hiv (e ▸ hz)
            have z2 : z ≠ (i : Int) + 1 := fun e => hnv (e ▸ hz)
            unfold swV; rw [if_neg z1, if_neg z2]
          rw [List.map_congr_left this, List.map_id']
        rw [h2]
        have : ∀ (l : List Int), (i : Int) ∉ l → less l ((i : Int) + 1) = less l i := by
          intro l
          induction l with
          | nil => intro _; rfl
          | cons z l ihl =>
            intro hz
            have z1 : z ≠ i := fun e => hz (by simp [e])
            rw [less_cons, less_cons, ihl (fun h => hz (by simp [h]))]
            by_cases hl : z < i
            · rw [if_pos hl, if_pos (by omega)]
            · rw [if_neg hl, if_neg (by omega)]
        exact this v hiv
      rw [h1, e, if_neg (by omega : ¬ (i : Int) + 1 < i)]
      have : swV i ((i : Int) + 1) = i := by unfold swV; rw [if_neg (by omega), if_pos rfl]
      rw [this, if_pos (by omega)]; omega
    · have hmv : (i : Int) + 1 ∈ v := by
        rcases List.mem_cons.1 hm with h | h
        · exact absurd h.symm e
        · exact h
      rw [ih hn'.2 hiv hmv]
      have : swV i y = y := by unfold swV; rw [if_neg hyi, if_neg e]
      rw [this]
      by_cases hl : y < i
      · rw [if_pos hl, if_pos (by omega)]; omega
      · rw [if_neg hl, if_neg (by omega)]; omega
theorem inv_before {i : Nat} (u v : List Int) : (u ++ (i : Int) :: v).Nodup → (i : Int) + 1 ∈ v → inv ((u ++ (i : Int) :: v).map (swV i)) = inv (u ++ (i : Int) :: v) + 1 := by
  induction u with
  | nil =>
    intro hn hm
    have hn' := List.nodup_cons.1 hn
    rw [List.nil_append, List.map_cons, inv, inv, inv_none v (.inl hn'.1)]
    have : swV i (i : Int) = (i : Int) + 1 := by unfold swV; rw [if_pos rfl]
    rw [this, less_one v hn'.2 hn'.1 hm]; omega
  | cons x u ih =>
    intro hn hm
    rw [List.cons_append] at hn ⊢
    have hn' := List.nodup_cons.1 hn
    have hx1 : x ≠ i := fun e => hn'.1 (by simp [e])
    have hx2 : x ≠ (i : Int) + 1 := fun e => hn'.1 (by rw [e]; simp [hm])
    rw [List.map_cons, inv, inv, ih hn'.2 hm, less_swV]
    · omega
    · intro y _
      exact swV_lt (fun e => hx1 e.1) (fun e => hx2 e.1)
theorem inv_up {n : Nat} {a : List Int} (h : Pn n a) {i : Nat} (hi : i + 1 < n) (hu : up a i) : inv (swapV a i) = inv a + 1 := by
  obtain ⟨p, hp, e1, e2⟩ := hit h (x := i) (by omega)
  obtain ⟨q, hq, e3, e4⟩ := hit h (x := i + 1) hi
  unfold up at hu
  rw [e2, e4] at hu
  have hpq : p < q := by omega
  have hpl : p < a.length := by rw [h.len]; exact hp
  have hd : a = a.take p ++ (i : Int) :: a.drop (p + 1) := by
    conv => lhs; rw [← List.take_append_drop p a, List.drop_eq_getElem_cons hpl, ← nth_lt hpl, e1]
  have hm : (i : Int) + 1 ∈ a.drop (p + 1) := by
    rw [show (i : Int) + 1 = ((i + 1 : Nat) : Int) by omega, ← e3, nth_lt (by rw [h.len]; exact hq)]
    rw [List.mem_iff_getElem]
    exact ⟨q - (p + 1), by rw [List.length_drop, h.len]; omega, by rw [List.getElem_drop]; congr 1; omega⟩
  have hn := h.perm.nodup
  unfold swapV
  rw [hd] at hn ⊢
  exact inv_before _ _ hn hm
theorem up_or {n : Nat} {a : List Int} (h : Pn n a) {i : Nat} (hi : i + 1 < n) : up a i ∨ dn (backL a) i := by
  rcases dn_or h.back hi with h1 | h1
  · exact .inr h1
  · exact .inl h1
theorem up_swapV {n : Nat} {a : List Int} (h : Pn n a) {i : Nat} (hi : i + 1 < n) (hd : dn (backL a) i) : up (swapV a i) i := by
  unfold up
  have hl : i + 1 < (backL a).length := by rw [backL_length, h.len]; exact hi
  rw [back_swapV h hi, nth_swapAt' _ _ _ hl, nth_swapAt' _ _ _ hl]
  unfold swN; unfold dn at hd
  simpa using hd
theorem inv_down {n : Nat} {a : List Int} (h : Pn n a) {i : Nat} (hi : i + 1 < n) (hd : dn (backL a) i) : inv (swapV a i) + 1 = inv a := by
  have := inv_up (h.swapV hi) hi (up_swapV h hi hd)
  rw [swapV_swapV] at this
  exact this.symm

/-- Without inversions: the identity. -/
theorem iota_of {n : Nat} {a : List Int} (h : Pn n a) (hu : ∀ i, i + 1 < n → up a i) : a = iota n := by
  have hc : ∀ i, i < n → nth (backL a) i = i := by
    have hr := fun i (hi : i < n) => h.back.range hi
    have hlo : ∀ i, i < n → (i : Int) ≤ nth (backL a) i := by
      intro i
      induction i with
      | zero => intro hi; exact (hr 0 hi).1
      | succ i ih =>
        intro hi
        have h1 := ih (by omega)
        have h2 : nth (backL a) i < nth (backL a) (i + 1) := hu i hi
        omega
    have hhi : ∀ k i, i + k + 1 = n → nth (backL a) i ≤ (i : Int) := by
      intro k
      induction k with
      | zero => intro i hi; have := (hr i (by omega)).2; omega
      | succ k ih =>
        intro i hi
        have h1 := ih (i + 1) (by omega)
        have h2 : nth (backL a) i < nth (backL a) (i + 1) := hu i (by omega)
        omega
    intro i hi
    have h1 := hlo i hi
    have h2 := hhi (n - i - 1) i (by omega)
    omega
  refine ext_nth (by rw [h.len, iota_length]) fun q hq => ?_
  rw [h.len] at hq
  have hr := h.range hq
  have h1 := back_at h hq
  rw [hc _ (by omega)] at h1
  rw [nth_iota _ _ hq]; omega
/-- Every permutation is made from the identity by adding crossings. -/
theorem permInd {n : Nat} (hn : n ≤ 1000) {P : List Int → Prop} (h0 : P (iota n)) (h1 : ∀ f j, Pn n f → j + 1 < n → up f j → P f → P (swapV f j)) : ∀ f, Pn n f → P f := by
  have : ∀ m f, inv f ≤ m → Pn n f → P f := by
    intro m
    induction m with
    | zero =>
      intro f hf hp
      have : ∀ i, i + 1 < n → up f i := fun i hi => by
        rcases up_or hp hi with h | h
        · exact h
        · have := inv_down hp hi h; omega
      rw [iota_of hp this]; exact h0
    | succ m ih =>
      intro f hf hp
      by_cases hall : ∀ i, i + 1 < n → up f i
      · rw [iota_of hp hall]; exact h0
      · obtain ⟨i, hi⟩ := Classical.not_forall.1 hall
        obtain ⟨hi, hu⟩ := Classical.not_imp.1 hi
        have hd := (up_or hp hi).resolve_left hu
        have h2 := inv_down hp hi hd
        have h3 := h1 (swapV f i) i (hp.swapV hi) hi (up_swapV hp hi hd) (ih _ (by omega) (hp.swapV hi))
        rwa [swapV_swapV] at h3
  exact fun f hf => this _ f (Nat.le_refl _) hf

end Go.Proofs.Ytmcecmnbdcbehaa

namespace Go.Proofs.Ytmcecmnbdcbehaa
open Go.RowKit Go.Sl

/-- A crossing of a factor is moved to the end of the factor before it. -/
inductive Step (n : Nat) : List (List Int) → List (List Int) → Prop
  | here {a b : List Int} {i : Nat} (post : List (List Int)) (hi : i + 1 < n) (hu : up a i) (hd : dn b i) : Step n (a :: b :: post) (swapV a i :: swapAt b i :: post)
  | next (x : List Int) {F G : List (List Int)} (h : Step n F G) : Step n (x :: F) (x :: G)
inductive Reach (n : Nat) : List (List Int) → List (List Int) → Prop
  | refl (F : List (List Int)) : Reach n F F
  | head {F G H : List (List Int)} (h : Step n F G) (k : Reach n G H) : Reach n F H
def Good (n : Nat) (F : List (List Int)) : Prop := ∀ a ∈ F, Pn n a
def Tight (n : Nat) (F : List (List Int)) : Prop := ∀ G, ¬ Step n F G

theorem Good.cons {n : Nat} {a : List Int} {F : List (List Int)} (h : Pn n a) (k : Good n F) : Good n (a :: F) := fun x hx => by
  rcases List.mem_cons.1 hx with rfl | hx
  · exact h
  · exact k x hx
theorem Good.hd {n : Nat} {a : List Int} {F : List (List Int)} (h : Good n (a :: F)) : Pn n a := h a (by simp)
theorem Good.tl {n : Nat} {a : List Int} {F : List (List Int)} (h : Good n (a :: F)) : Good n F := fun x hx => h x (by simp [hx])
theorem Good.app {n : Nat} {F G : List (List Int)} (h : Good n F) (k : Good n G) : Good n (F ++ G) := fun x hx => (List.mem_append.1 hx).elim (h x) (k x)
theorem good_nil (n : Nat) : Good n [] := fun _ h => by cases h
theorem Step.good {n : Nat} {F G : List (List Int)} (h : Step n F G) : Good n F → Good n G := by
  induction h with
  | here post hi hu hd => exact fun g => (g.hd.swapV hi).1 |> fun _ => Good.cons (g.hd.swapV hi) (Good.cons (g.tl.hd.swapAt hi) g.tl.tl)
  | next x h ih => exact fun g => Good.cons g.hd (ih g.tl)
theorem Step.len {n : Nat} {F G : List (List Int)} (h : Step n F G) : G.length = F.length := by
  induction h with
  | here => rfl
  | next x h ih => simp [ih]
def tot : List (List Int) → Nat
  | [] => 0
  | a :: F => inv a + tot F
def mu : List (List Int) → Nat
  | [] => 0
  | _ :: F => mu F + tot F
theorem Step.tot {n : Nat} {F G : List (List Int)} (h : Step n F G) : Good n F → Go.Proofs.Ytmcecmnbdcbehaa.tot G = Go.Proofs.Ytmcecmnbdcbehaa.tot F := by
  induction h with
  | here post hi hu hd =>
    intro g
    have h1 := inv_up g.hd hi hu
    have h2 := inv_dn g.tl.hd hi hd
    simp only [Go.Proofs.Ytmcecmnbdcbehaa.tot]; omega
  | next x h ih => intro g; simp only [Go.Proofs.Ytmcecmnbdcbehaa.tot, ih g.tl]
theorem Step.mu {n : Nat} {F G : List (List Int)} (h : Step n F G) : Good n F → Go.Proofs.Ytmcecmnbdcbehaa.mu G + 1 = Go.Proofs.Ytmcecmnbdcbehaa.mu F := by
  induction h with
  | here post hi hu hd =>
    intro g
    have h2 := inv_dn g.tl.hd hi hd
    simp only [Go.Proofs.Ytmcecmnbdcbehaa.mu, Go.Proofs.Ytmcecmnbdcbehaa.tot]; omega
  | next x h ih =>
    intro g
    have h1 := ih g.tl
    have h2 := h.tot g.tl
    simp only [Go.Proofs.Ytmcecmnbdcbehaa.mu]; omega
theorem Reach.trans {n : Nat} {F G H : List (List Int)} (h : Reach n F G) (k : Reach n G H) : Reach n F H := by
  induction h with
  | refl => exact k
  | head h _ ih => exact .head h (ih k)
theorem Reach.one {n : Nat} {F G : List (List Int)} (h : Step n F G) : Reach n F G := .head h (.refl _)
theorem Reach.good {n : Nat} {F G : List (List Int)} (h : Reach n F G) : Good n F → Good n G := by
  induction h with
  | refl => exact id
  | head h _ ih => exact fun g => ih (h.good g)
theorem Reach.len {n : Nat} {F G : List (List Int)} (h : Reach n F G) : G.length = F.length := by
  induction h with
  | refl => rfl
  | head h _ ih => rw [ih, h.len]
theorem Reach.tot {n : Nat} {F G : List (List Int)} (h : Reach n F G) : Good n F → Go.Proofs.Ytmcecmnbdcbehaa.tot G = Go.Proofs.Ytmcecmnbdcbehaa.tot F := by
  induction h with
  | refl => exact fun _ => rfl
  | head h _ ih => exact fun g => (ih (h.good g)).trans (h.tot g)
theorem Reach.cons {n : Nat} (x : List Int) {F G : List (List Int)} (h : Reach n F G) : Reach n (x :: F) (x :: G) := by
  induction h with
  | refl => exact .refl _
  | head h _ ih => exact .head (.next x h) ih
theorem Reach.pre {n : Nat} (P : List (List Int)) {F G : List (List Int)} (h : Reach n F G) : Reach n (P ++ F) (P ++ G) := by
  induction P with
  | nil => exact h
  | cons x P ih => exact ih.cons x
theorem Step.post {n : Nat} {F G : List (List Int)} (h : Step n F G) (Q : List (List Int)) : Step n (F ++ Q) (G ++ Q) := by
  induction h with
  | here post hi hu hd => exact .here (post ++ Q) hi hu hd
  | next x h ih => exact .next x ih
theorem Reach.post {n : Nat} {F G : List (List Int)} (h : Reach n F G) (Q : List (List Int)) : Reach n (F ++ Q) (G ++ Q) := by
  induction h with
  | refl => exact .refl _
  | head h _ ih => exact .head (h.post Q) ih
theorem exists_tight {n : Nat} : ∀ m F, mu F ≤ m → Good n F → ∃ T, Reach n F T ∧ Tight n T := by
  intro m
  induction m with
  | zero =>
    intro F h g
    exact ⟨F, .refl _, fun G hs => by have := hs.mu g; omega⟩
  | succ m ih =>
    intro F h g
    by_cases ht : Tight n F
    · exact ⟨F, .refl _, ht⟩
    · obtain ⟨G, hG⟩ := Classical.not_forall.1 ht
      have hs := Classical.not_not.1 hG
      obtain ⟨T, h1, h2⟩ := ih G (by have := hs.mu g; omega) (hs.good g)
      exact ⟨T, .head hs h1, h2⟩

/-! Local confluence. -/
section
variable {n : Nat} {a b d : List Int} {i j : Nat}
theorem swapV_far (h : i + 1 < j ∨ j + 1 < i) : swapV (swapV a i) j = swapV (swapV a j) i := by
  unfold swapV
  rw [List.map_map, List.map_map]
  refine List.map_congr_left fun x _ => ?_
  show swV j (swV i x) = swV i (swV j x)
  unfold swV; grind
theorem swapAt_far (hb : Pn n b) (hi : i + 1 < n) (hj : j + 1 < n) (h : i + 1 < j ∨ j + 1 < i) : swapAt (swapAt b i) j = swapAt (swapAt b j) i := by
  refine ext_nth (by simp [swapAt_length]) fun q _ => ?_
  rw [nth_swapAt' _ _ _ (by rw [swapAt_length, hb.len]; exact hj), nth_swapAt' _ _ _ (by rw [hb.len]; exact hi), nth_swapAt' _ _ _ (by rw [swapAt_length, hb.len]; exact hi), nth_swapAt' _ _ _ (by rw [hb.len]; exact hj)]
  congr 1
  unfold swN; grind
theorem nsw (hb : Pn n b) (hi : i + 1 < n) (q : Nat) : nth (swapAt b i) q = nth b (swN i q) := nth_swapAt' b i q (by rw [hb.len]; exact hi)
theorem dn_far (hb : Pn n b) (hi : i + 1 < n) (h : i + 1 < j ∨ j + 1 < i) : dn (swapAt b i) j ↔ dn b j := by
  unfold dn
  rw [nsw hb hi, nsw hb hi]
  have e1 : swN i j = j := by unfold swN; grind
  have e2 : swN i (j + 1) = j + 1 := by unfold swN; grind
  rw [e1, e2]
theorem up_far (ha : Pn n a) (hi : i + 1 < n) (h : i + 1 < j ∨ j + 1 < i) : up (swapV a i) j ↔ up a j := by
  unfold up
  rw [back_swapV ha hi, nsw ha.back hi, nsw ha.back hi]
  have e1 : swN i j = j := by unfold swN; grind
  have e2 : swN i (j + 1) = j + 1 := by unfold swN; grind
  rw [e1, e2]
theorem swapV_braid : swapV (swapV (swapV a i) (i + 1)) i = swapV (swapV (swapV a (i + 1)) i) (i + 1) := by
  unfold swapV
  rw [List.map_map, List.map_map, List.map_map, List.map_map]
  refine List.map_congr_left fun x _ => ?_
  show swV i (swV (i + 1) (swV i x)) = swV (i + 1) (swV i (swV (i + 1) x))
  unfold swV; grind
theorem swapAt_braid (hb : Pn n b) (hj : i + 1 + 1 < n) : swapAt (swapAt (swapAt b i) (i + 1)) i = swapAt (swapAt (swapAt b (i + 1)) i) (i + 1) := by
  have hi : i + 1 < n := by omega
  refine ext_nth (by simp [swapAt_length]) fun q _ => ?_
  rw [nsw ((hb.swapAt hi).swapAt hj) hi, nsw (hb.swapAt hi) hj, nsw hb hi, nsw ((hb.swapAt hj).swapAt hi) hj, nsw (hb.swapAt hj) hi, nsw hb hj]
  congr 1
  unfold swN; grind
/-- Two neighbouring crossings: what else can be moved behind the first. -/
theorem dn_next (hb : Pn n b) (hj : i + 1 + 1 < n) (h1 : dn b i) (h2 : dn b (i + 1)) : dn (swapAt b i) (i + 1) ∧ dn (swapAt (swapAt b i) (i + 1)) i ∧ dn (swapAt b (i + 1)) i ∧ dn (swapAt (swapAt b (i + 1)) i) (i + 1) := by
  have hi : i + 1 < n := by omega
  unfold dn at *
  rw [nsw hb hi, nsw hb hi, nsw (hb.swapAt hi) hj, nsw (hb.swapAt hi) hj, nsw hb hi, nsw hb hi, nsw hb hj, nsw hb hj, nsw (hb.swapAt hj) hi, nsw (hb.swapAt hj) hi, nsw hb hj, nsw hb hj]
  have e1 : swN i (i + 1) = i := by unfold swN; grind
  have e2 : swN i (i + 1 + 1) = i + 1 + 1 := by unfold swN; grind
  have e3 : swN (i + 1) i = i := by unfold swN; grind
  have e4 : swN (i + 1) (i + 1) = i + 1 + 1 := by unfold swN; grind
  have e5 : swN i i = i + 1 := by unfold swN; grind
  have e6 : swN (i + 1) (i + 1 + 1) = i + 1 := by unfold swN; grind
  simp only [e1, e2, e3, e4, e5, e6]
  omega
theorem up_next (ha : Pn n a) (hj : i + 1 + 1 < n) (h1 : up a i) (h2 : up a (i + 1)) : up (swapV a i) (i + 1) ∧ up (swapV (swapV a i) (i + 1)) i ∧ up (swapV a (i + 1)) i ∧ up (swapV (swapV a (i + 1)) i) (i + 1) := by
  have hi : i + 1 < n := by omega
  unfold up at *
  have hb := ha.back
  rw [back_swapV (ha.swapV hi) hj, back_swapV (ha.swapV hj) hi, back_swapV ha hi, back_swapV ha hj]
  rw [nsw hb hi, nsw hb hi, nsw (hb.swapAt hi) hj, nsw (hb.swapAt hi) hj, nsw hb hi, nsw hb hi, nsw hb hj, nsw hb hj, nsw (hb.swapAt hj) hi, nsw (hb.swapAt hj) hi, nsw hb hj, nsw hb hj]
  have e1 : swN i (i + 1) = i := by unfold swN; grind
  have e2 : swN i (i + 1 + 1) = i + 1 + 1 := by unfold swN; grind
  have e3 : swN (i + 1) i = i := by unfold swN; grind
  have e4 : swN (i + 1) (i + 1) = i + 1 + 1 := by unfold swN; grind
  have e5 : swN i i = i + 1 := by unfold swN; grind
  have e6 : swN (i + 1) (i + 1 + 1) = i + 1 := by unfold swN; grind
  simp only [e1, e2, e3, e4, e5, e6]
  omega
/-- Two crossings of the same pair. -/
theorem conf_same (post : List (List Int)) (ha : Pn n a) (hb : Pn n b) (hi : i + 1 < n) (hj : j + 1 < n) (ui : up a i) (di : dn b i) (uj : up a j) (dj : dn b j) :
    ∃ D, Reach n (swapV a i :: swapAt b i :: post) D ∧ Reach n (swapV a j :: swapAt b j :: post) D := by
  have next : ∀ i, i + 1 + 1 < n → up a i → dn b i → up a (i + 1) → dn b (i + 1) → ∃ D, Reach n (swapV a i :: swapAt b i :: post) D ∧ Reach n (swapV a (i + 1) :: swapAt b (i + 1) :: post) D := by
    intro i hj ui di uj dj
    have hi : i + 1 < n := by omega
    obtain ⟨u1, u2, u3, u4⟩ := up_next ha hj ui uj
    obtain ⟨d1, d2, d3, d4⟩ := dn_next hb hj di dj
    refine ⟨_, .head (.here post hj u1 d1) (.one (.here post hi u2 d2)), ?_⟩
    rw [swapV_braid, swapAt_braid hb hj]
    exact .head (.here post hi u3 d3) (.one (.here post hj u4 d4))
  by_cases e : i = j
  · subst e; exact ⟨_, .refl _, .refl _⟩
  · by_cases e1 : j = i + 1
    · subst e1; exact next i hj ui di uj dj
    · by_cases e2 : i = j + 1
      · subst e2
        obtain ⟨D, h1, h2⟩ := next j hi uj dj ui di
        exact ⟨D, h2, h1⟩
      · have hf : i + 1 < j ∨ j + 1 < i := by omega
        refine ⟨_, .one (.here post hj ((up_far ha hi hf).2 uj) ((dn_far hb hi hf).2 dj)), ?_⟩
        rw [swapV_far hf, swapAt_far hb hi hj hf]
        exact .one (.here post hi ((up_far ha hj hf.symm).2 ui) ((dn_far hb hj hf.symm).2 di))
/-- A crossing of a factor's beginning and one at its end. -/
theorem dn_keep (hb : Pn n b) (hi : i + 1 < n) (hj : j + 1 < n) (di : dn b i) (uj : up b j) : dn (swapV b j) i := by
  unfold dn at *
  rw [nth_swapV _ _ _ (by rw [hb.len]; omega), nth_swapV _ _ _ (by rw [hb.len]; omega)]
  by_cases h : nth b (i + 1) = j ∧ nth b i = (j : Int) + 1
  · exfalso
    have h1 := back_at hb hi
    have h2 := back_at hb (q := i) (by omega)
    rw [h.1, Int.toNat_natCast] at h1
    rw [h.2, show ((j : Int) + 1).toNat = j + 1 by omega] at h2
    unfold up at uj
    omega
  · unfold swV; grind
theorem up_keep (hb : Pn n b) (hi : i + 1 < n) (hj : j + 1 < n) (di : dn b i) (uj : up b j) : up (swapAt b i) j := by
  unfold up at *
  rw [back_swapAt hb hi, nth_swapV _ _ _ (by rw [hb.back.len]; omega), nth_swapV _ _ _ (by rw [hb.back.len]; omega)]
  by_cases h : nth (backL b) j = i ∧ nth (backL b) (j + 1) = (i : Int) + 1
  · exfalso
    have h1 := back_at hb.back hj
    have h2 := back_at hb.back (q := j) (by omega)
    rw [back_back hb] at h1 h2
    rw [h.2, show ((i : Int) + 1).toNat = i + 1 by omega] at h1
    rw [h.1, Int.toNat_natCast] at h2
    unfold dn at di
    omega
  · unfold swV; grind
/-- A crossing of the first pair, and one behind it. -/
theorem conf_next {post G : List (List Int)} (ha : Pn n a) (hg : Good n (b :: post)) (hi : i + 1 < n) (ui : up a i) (di : dn b i) (h : Step n (b :: post) G) :
    ∃ D, Reach n (swapV a i :: swapAt b i :: post) D ∧ Reach n (a :: G) D := by
  cases h with
  | here post' hj uj dj =>
    rename_i d j
    have hb := hg.hd
    refine ⟨_, .one (.next _ (.here post' hj (up_keep hb hi hj di uj) dj)), ?_⟩
    rw [← swap_comm hb hi j]
    exact .one (.here _ hi ui (dn_keep hb hi hj di uj))
  | next _ h =>
    exact ⟨_, .one (.next _ (.next _ h)), .one (.here _ hi ui di)⟩
end
theorem conf {n : Nat} {F A : List (List Int)} (h : Step n F A) : ∀ B, Good n F → Step n F B → ∃ D, Reach n A D ∧ Reach n B D := by
  induction h with
  | here post hi hu hd =>
    intro B g k
    cases k with
    | here _ hj uj dj => exact conf_same post g.hd g.tl.hd hi hj hu hd uj dj
    | next _ k => exact conf_next g.hd g.tl hi hu hd k
  | next x h ih =>
    intro B g k
    cases k with
    | here post hj uj dj =>
      obtain ⟨D, h1, h2⟩ := conf_next g.hd g.tl hj uj dj h
      exact ⟨D, h2, h1⟩
    | next _ k =>
      obtain ⟨D, h1, h2⟩ := ih _ g.tl k
      exact ⟨_, h1.cons x, h2.cons x⟩
theorem unique {n : Nat} : ∀ m F, mu F ≤ m → Good n F → ∀ A B, Reach n F A → Tight n A → Reach n F B → Tight n B → A = B := by
  intro m
  induction m with
  | zero =>
    intro F h g A B hA _ hB _
    cases hA with
    | head h1 _ => have := h1.mu g; omega
    | refl => cases hB with
      | refl => rfl
      | head h1 _ => have := h1.mu g; omega
  | succ m ih =>
    intro F h g A B hA tA hB tB
    cases hA with
    | refl => cases hB with
      | refl => rfl
      | head h1 _ => exact absurd h1 (tA _)
    | head h1 k1 =>
      cases hB with
      | refl => exact absurd h1 (tB _)
      | head h2 k2 =>
        obtain ⟨D, d1, d2⟩ := conf h1 _ g h2
        have m1 := h1.mu g
        have m2 := h2.mu g
        obtain ⟨T, t1, t2⟩ := exists_tight (n := n) _ D (Nat.le_refl _) (d1.good (h1.good g))
        have e1 := ih _ (by omega) (h1.good g) A T k1 tA (d1.trans t1) t2
        have e2 := ih _ (by omega) (h2.good g) B T k2 tB (d2.trans t1) t2
        rw [e1, e2]
/-- What is reached leads to the same end. -/
theorem same_end {n : Nat} {F G T : List (List Int)} (g : Good n F) (h : Reach n F G) (k : Reach n F T) (t : Tight n T) : Reach n G T := by
  obtain ⟨S, s1, s2⟩ := exists_tight (n := n) _ G (Nat.le_refl _) (h.good g)
  rw [unique _ F (Nat.le_refl _) g T S k t (h.trans s1) s2]
  exact s1

end Go.Proofs.Ytmcecmnbdcbehaa

namespace Go.Proofs.Ytmcecmnbdcbehaa
open Go.RowKit Go.Sl

section
variable {n : Nat} {a b d f g : List Int} {i j : Nat}
theorem back_iota (hn : n ≤ 1000) {i : Nat} (hi : i < n) : nth (backL (iota n)) i = i := by
  have := back_at (pn_iota hn) hi
  rwa [nth_iota _ _ hi, Int.toNat_natCast] at this
theorem up_iota (hn : n ≤ 1000) (hi : i + 1 < n) : up (iota n) i := by
  unfold up; rw [back_iota hn (by omega), back_iota hn hi]; omega
theorem not_dn_iota (hi : i + 1 < n) : ¬ dn (iota n) i := by
  unfold dn; rw [nth_iota _ _ hi, nth_iota _ _ (by omega)]; omega
theorem inv_asc (l : List Int) : Asc l → inv l = 0 := by
  induction l with
  | nil => intro _; rfl
  | cons x t ih =>
    intro h
    have h' := List.pairwise_cons.1 h
    have : less t x = 0 := by
      unfold less
      rw [List.length_eq_zero_iff, List.filter_eq_nil_iff]
      intro y hy
      have := h'.1 y hy
      simp; omega
    rw [inv, this, ih h'.2]
theorem inv_iota (n : Nat) : inv (iota n) = 0 := inv_asc _ (asc_iota n)
/-- A single crossing. -/
def sgP (n i : Nat) : List Int := swapV (iota n) i
theorem pn_sg (hn : n ≤ 1000) (hi : i + 1 < n) : Pn n (sgP n i) := (pn_iota hn).swapV hi
theorem swapAt_sg (hi : i + 1 < n) : swapAt (sgP n i) i = iota n := by
  unfold sgP
  rw [swapV_iota hi, swapAt_swapAt _ _ (by rw [iota_length]; exact hi)]
theorem dn_sg (hi : i + 1 < n) : dn (sgP n i) i := by
  unfold dn sgP
  rw [nth_swapV _ _ _ (by rw [iota_length]; exact hi), nth_swapV _ _ _ (by rw [iota_length]; omega), nth_iota _ _ hi, nth_iota _ _ (by omega)]
  unfold swV; grind
theorem thenL_swapV (ha : Pn n a) (hd : Pn n d) : thenL a (swapV d j) = swapV (thenL a d) j := by
  refine ext_nth (by simp [thenL_length, swapV_length]) fun q hq => ?_
  rw [thenL_length, ha.len] at hq
  have hr := ha.range hq
  rw [nth_thenL _ _ _ (by rw [ha.len]; exact hq), nth_swapV _ _ _ (by rw [hd.len]; omega), nth_swapV _ _ _ (by rw [thenL_length, ha.len]; exact hq), nth_thenL _ _ _ (by rw [ha.len]; exact hq)]
theorem then_iota (ha : Pn n a) : thenL a (iota n) = a := by
  have := iota_thenL ha.perm.range
  rwa [ha.len] at this
theorem iota_then (ha : Pn n a) : thenL (iota n) a = a := by
  have := thenL_iota a
  rwa [ha.len] at this
theorem inv_sub (hn : n ≤ 1000) (ha : Pn n a) : ∀ d, Pn n d → inv (thenL a d) ≤ inv a + inv d := by
  refine permInd hn ?_ fun f j hf hj hu ih => ?_
  · rw [then_iota ha]; omega
  · rw [thenL_swapV ha hf, inv_up hf hj hu]
    have hp := ha.then hf
    rcases up_or hp hj with h | h
    · rw [inv_up hp hj h]; omega
    · have := inv_down hp hj h; omega
theorem step_iota {F G : List (List Int)} (h : Step n (F ++ [iota n]) G) : ∃ F', G = F' ++ [iota n] ∧ Step n F F' := by
  induction F generalizing G with
  | nil => cases h with
    | next _ h => cases h
  | cons x F ih =>
    cases F with
    | nil =>
      cases h with
      | here post hi hu hd => exact absurd hd (not_dn_iota hi)
      | next _ h => cases h with
        | next _ h => cases h
    | cons y F =>
      cases h with
      | here post hi hu hd => exact ⟨_ :: _ :: F, rfl, .here F hi hu hd⟩
      | next _ h =>
        obtain ⟨F', e, k⟩ := ih h
        exact ⟨x :: F', by rw [e]; rfl, .next x k⟩
theorem reach_iota {A G : List (List Int)} (h : Reach n A G) : ∀ F, A = F ++ [iota n] → ∃ F', G = F' ++ [iota n] ∧ Reach n F F' := by
  induction h with
  | refl A => exact fun F e => ⟨F, e, .refl F⟩
  | head h k ih =>
    intro F e
    subst e
    obtain ⟨F1, e1, h1⟩ := step_iota h
    obtain ⟨F2, e2, h2⟩ := ih F1 e1
    exact ⟨F2, e2, .head h1 h2⟩
theorem reach_strip {F T : List (List Int)} (h : Reach n (F ++ [iota n]) (T ++ [iota n])) : Reach n F T := by
  obtain ⟨F', e, k⟩ := reach_iota h F rfl
  rw [List.append_cancel_right e]; exact k
theorem tight_one (a : List Int) : Tight n [a] := fun G h => by
  cases h with
  | next _ h => cases h
theorem Tight.tl {T : List (List Int)} (h : Tight n (a :: T)) : Tight n T := fun G k => h _ (.next a k)
theorem Tight.pair {T : List (List Int)} (h : Tight n (a :: b :: T)) : ∀ i, i + 1 < n → dn b i → ¬ up a i := fun i hi hd hu => h _ (.here T hi hu hd)
theorem tight_cons {T : List (List Int)} (h : Tight n (b :: T)) (k : ∀ i, i + 1 < n → dn b i → ¬ up a i) : Tight n (a :: b :: T) := fun G s => by
  cases s with
  | here post hi hu hd => exact k _ hi hd hu
  | next _ s => exact h _ s
theorem tight_iota {T : List (List Int)} (h : Tight n T) : Tight n (T ++ [iota n]) := fun G s => by
  obtain ⟨F', _, k⟩ := step_iota s
  exact h _ k

/-- Two factors whose product is a factor. -/
theorem rp (hn : n ≤ 1000) (ha : Pn n a) : ∀ d, Pn n d → inv (thenL a d) = inv a + inv d → Reach n [a, d] [thenL a d, iota n] := by
  refine permInd hn (fun _ => by rw [then_iota ha]; exact .refl _) fun f j hf hj hu ih h => ?_
  rw [thenL_swapV ha hf] at h ⊢
  have hp := ha.then hf
  have hsub := inv_sub hn ha f hf
  rw [inv_up hf hj hu] at h
  have hup : up (thenL a f) j := by
    rcases up_or hp hj with h1 | h1
    · exact h1
    · have := inv_down hp hj h1; omega
  rw [inv_up hp hj hup] at h
  have hih := ih (by omega)
  have r1 : Reach n [a, f, sgP n j] [a, swapV f j, iota n] := by
    have := Step.next a (Step.here (n := n) (b := sgP n j) [] hj hu (dn_sg hj))
    rw [swapAt_sg hj] at this
    exact .one this
  have r2 : Reach n [a, f, sgP n j] [swapV (thenL a f) j, iota n, iota n] := by
    have s1 : Reach n [a, f, sgP n j] [thenL a f, iota n, sgP n j] := hih.post [sgP n j]
    have s2 : Step n [thenL a f, iota n, sgP n j] [thenL a f, sgP n j, iota n] := by
      have := Step.next (thenL a f) (Step.here (n := n) (b := sgP n j) [] hj (up_iota hn hj) (dn_sg hj))
      rw [swapAt_sg hj] at this
      exact this
    have s3 : Step n [thenL a f, sgP n j, iota n] [swapV (thenL a f) j, iota n, iota n] := by
      have := Step.here (n := n) (b := sgP n j) [iota n] hj hup (dn_sg hj)
      rw [swapAt_sg hj] at this
      exact this
    exact s1.trans (.head s2 (.one s3))
  have g : Good n [a, f, sgP n j] := .cons ha (.cons hf (.cons (pn_sg hn hj) (good_nil n)))
  have t : Tight n [swapV (thenL a f) j, iota n, iota n] := tight_iota (T := [_, _]) (tight_iota (T := [_]) (tight_one _))
  have := same_end g r1 r2 t
  exact reach_strip (F := [a, swapV f j]) (T := [swapV (thenL a f) j, iota n]) this

/-! The half twist. -/
def hf (n : Nat) : List Int := (iota n).reverse
theorem hf_length (n : Nat) : (hf n).length = n := by simp [hf, iota_length]
theorem nth_grev (l : List Int) {q : Nat} (h : q < l.length) : nth l.reverse q = nth l (l.length - 1 - q) := by
  rw [nth_lt (by simpa using h), List.getElem_reverse, nth_lt (by omega)]
theorem nth_hf {q : Nat} (h : q < n) : nth (hf n) q = (n : Int) - 1 - q := by
  unfold hf
  rw [nth_grev _ (by rw [iota_length]; exact h), iota_length, nth_iota _ _ (by omega)]; omega
theorem pn_hf (hn : n ≤ 1000) : Pn n (hf n) := ⟨⟨by rw [hf_length]; exact List.reverse_perm _, by rw [hf_length]; exact hn⟩, hf_length n⟩
theorem back_hf (hn : n ≤ 1000) {x : Nat} (h : x < n) : nth (backL (hf n)) x = (n : Int) - 1 - x := by
  have := back_at (pn_hf hn) (q := n - 1 - x) (by omega)
  rw [nth_hf (by omega)] at this
  rw [show ((n : Int) - 1 - ((n - 1 - x : Nat) : Int)).toNat = x by omega] at this
  rw [this]; omega
theorem not_up_hf (hn : n ≤ 1000) (hi : i + 1 < n) : ¬ up (hf n) i := by
  unfold up; rw [back_hf hn (by omega), back_hf hn hi]; omega
theorem dn_hf (hi : i + 1 < n) : dn (hf n) i := by
  unfold dn; rw [nth_hf hi, nth_hf (by omega)]; omega
theorem tight_hf (hn : n ≤ 1000) {T : List (List Int)} (h : Tight n T) : Tight n (hf n :: T) := by
  cases T with
  | nil => exact tight_one _
  | cons b T => exact tight_cons h fun i hi _ => not_up_hf hn hi
/-- Only the half twist takes no crossing. -/
theorem hf_of (hn : n ≤ 1000) (ha : Pn n a) (h : ∀ i, i + 1 < n → ¬ up a i) : a = hf n := by
  have h1 : ∀ i, i + 1 < n → dn (backL a) i := fun i hi => (up_or ha hi).resolve_left (h i hi)
  have h2 : (backL a).reverse = iota n := by
    have hp : Pn n (backL a).reverse := by
      have hb := ha.back
      exact ⟨⟨by rw [List.length_reverse]; exact (List.reverse_perm _).trans hb.perm.perm, by rw [List.length_reverse]; exact hb.perm.small⟩, by rw [List.length_reverse, hb.len]⟩
    have e : ∀ i, i + 1 < n → nth (backL a).reverse i < nth (backL a).reverse (i + 1) := fun i hi => by
      have hb := ha.back
      have := h1 (n - 2 - i) (by omega)
      unfold dn at this
      rw [nth_grev _ (by rw [hb.len]; omega), nth_grev _ (by rw [hb.len]; omega), hb.len]
      rw [show n - 1 - (i + 1) = n - 2 - i by omega, show n - 1 - i = n - 2 - i + 1 by omega]
      exact this
    have := iota_of hp.back (fun i hi => by unfold up; rw [back_back hp]; exact e i hi)
    have h3 := congrArg backL this
    rw [back_back hp] at h3
    rw [h3]
    refine ext_nth (by rw [backL_length]) fun q hq => ?_
    rw [backL_length, iota_length] at hq
    rw [back_iota hn hq, nth_iota _ _ hq]
  have h3 : backL a = hf n := by unfold hf; rw [← h2, List.reverse_reverse]
  have h4 := back_back ha
  rw [h3] at h4
  rw [← h4]
  refine ext_nth (by rw [backL_length]) fun q hq => ?_
  rw [backL_length, hf_length] at hq
  rw [back_hf hn hq, nth_hf hq]
def turnP (n : Nat) (a : List Int) : List Int := a.reverse.map fun x => (n : Int) - 1 - x
theorem turn_length (a : List Int) : (turnP n a).length = a.length := by simp [turnP]
theorem nth_turn (ha : a.length = n) {q : Nat} (h : q < n) : nth (turnP n a) q = (n : Int) - 1 - nth a (n - 1 - q) := by
  unfold turnP
  rw [nth_map _ _ _ (by simpa [ha] using h), nth_grev _ (by rw [ha]; exact h), ha]
theorem turn_iota : turnP n (iota n) = iota n := by
  refine ext_nth (by rw [turn_length]) fun q hq => ?_
  rw [turn_length, iota_length] at hq
  rw [nth_turn (iota_length n) hq, nth_iota _ _ hq, nth_iota _ _ (by omega)]; omega
theorem pn_turn (ha : Pn n a) : Pn n (turnP n a) := by
  refine ⟨⟨?_, by rw [turn_length]; exact ha.perm.small⟩, by rw [turn_length, ha.len]⟩
  rw [turn_length, ha.len]
  have h1 : a.Perm (iota n) := by have := ha.perm.perm; rwa [ha.len] at this
  have h2 : (turnP n a).Perm (turnP n (iota n)) := ((List.reverse_perm a).trans (h1.trans (List.reverse_perm (iota n)).symm)).map _
  rw [turn_iota] at h2
  exact h2
theorem turn_hf : turnP n (hf n) = hf n := by
  refine ext_nth (by rw [turn_length]) fun q hq => ?_
  rw [turn_length, hf_length] at hq
  rw [nth_turn (hf_length n) hq, nth_hf hq, nth_hf (by omega)]; omega
theorem back_turn (ha : Pn n a) {x : Nat} (hx : x < n) : nth (backL (turnP n a)) x = (n : Int) - 1 - nth (backL a) (n - 1 - x) := by
  obtain ⟨q, hq, e1, e2⟩ := hit ha (x := n - 1 - x) (by omega)
  have h1 := back_at (pn_turn ha) (q := n - 1 - q) (by omega)
  rw [nth_turn ha.len (by omega), show n - 1 - (n - 1 - q) = q by omega, e1] at h1
  rw [show ((n : Int) - 1 - ((n - 1 - x : Nat) : Int)).toNat = x by omega] at h1
  rw [h1, e2]; omega
theorem up_turn (ha : Pn n a) (hi : i + 1 < n) : up (turnP n a) i ↔ up a (n - 2 - i) := by
  unfold up
  rw [back_turn ha (by omega), back_turn ha hi, show n - 1 - i = n - 2 - i + 1 by omega, show n - 1 - (i + 1) = n - 2 - i by omega]
  omega
theorem dn_turn (ha : Pn n a) (hi : i + 1 < n) : dn (turnP n a) i ↔ dn a (n - 2 - i) := by
  unfold dn
  rw [nth_turn ha.len hi, nth_turn ha.len (by omega), show n - 1 - i = n - 2 - i + 1 by omega, show n - 1 - (i + 1) = n - 2 - i by omega]
  omega
theorem turn_swapV (ha : Pn n a) (hi : i + 1 < n) : turnP n (swapV a i) = swapV (turnP n a) (n - 2 - i) := by
  refine ext_nth (by simp [turn_length, swapV_length]) fun q hq => ?_
  rw [turn_length, swapV_length, ha.len] at hq
  rw [nth_turn (by rw [swapV_length, ha.len]) hq, nth_swapV _ _ _ (by rw [ha.len]; omega), nth_swapV _ _ _ (by rw [turn_length, ha.len]; exact hq), nth_turn ha.len hq]
  unfold swV; grind
theorem turn_swapAt (ha : Pn n a) (hi : i + 1 < n) : turnP n (swapAt a i) = swapAt (turnP n a) (n - 2 - i) := by
  refine ext_nth (by simp [turn_length, swapAt_length]) fun q hq => ?_
  rw [turn_length, swapAt_length, ha.len] at hq
  rw [nth_turn (by rw [swapAt_length, ha.len]) hq, nsw ha hi, nsw (pn_turn ha) (by omega), nth_turn ha.len (swN_lt (by omega) hq)]
  congr 2
  unfold swN; grind
theorem step_turn {F G : List (List Int)} (h : Step n F G) : Good n F → Step n (F.map (turnP n)) (G.map (turnP n)) := by
  induction h with
  | here post hi hu hd =>
    rename_i a b i
    intro g
    have e : n - 2 - (n - 2 - i) = i := by omega
    rw [List.map_cons, List.map_cons, List.map_cons, List.map_cons, turn_swapV g.hd hi, turn_swapAt g.tl.hd hi]
    exact .here _ (by omega) ((up_turn g.hd (by omega)).2 (by rw [e]; exact hu)) ((dn_turn g.tl.hd (by omega)).2 (by rw [e]; exact hd))
  | next x h ih => exact fun g => .next _ (ih g.tl)
theorem good_turn {F : List (List Int)} (h : Good n F) : Good n (F.map (turnP n)) := fun x hx => by
  obtain ⟨y, hy, rfl⟩ := List.mem_map.1 hx
  exact pn_turn (h y hy)
end

end Go.Proofs.Ytmcecmnbdcbehaa

namespace Go.Proofs.Ytmcecmnbdcbehaa
open Go.RowKit Go.Sl

abbrev St := Int × List (List Int)
inductive Eqv (n : Nat) : St → St → Prop
  | refl (s : St) : Eqv n s s
  | symm {s t : St} (h : Eqv n s t) : Eqv n t s
  | trans {s t u : St} (h : Eqv n s t) (k : Eqv n t u) : Eqv n s u
  | step (k : Int) {F G : List (List Int)} (g : Good n F) (h : Step n F G) : Eqv n (k, F) (k, G)
  | trail (k : Int) {F : List (List Int)} (g : Good n F) : Eqv n (k, F ++ [iota n]) (k, F)
  | half (k : Int) {F : List (List Int)} (g : Good n F) : Eqv n (k, hf n :: F) (k + 1, F)

section
variable {n : Nat}
theorem good_one (hn : n ≤ 1000) {a : List Int} (h : Pn n a) : Good n [a] := .cons h (good_nil n)
theorem eqv_reach {F G : List (List Int)} (k : Int) (h : Reach n F G) : Good n F → Eqv n (k, F) (k, G) := by
  induction h with
  | refl F => exact fun _ => .refl _
  | head h _ ih => exact fun g => .trans (.step k g h) (ih (h.good g))
/-- Without half twists and identities. -/
def strip (n : Nat) (k : Int) (T : List (List Int)) : St := (k + T.count (hf n), T.filter fun p => decide (p ≠ hf n ∧ p ≠ iota n))
def Cn (n : Nat) (s c : St) : Prop := Good n s.2 ∧ ∃ T, Reach n s.2 T ∧ Tight n T ∧ c = strip n s.1 T
theorem cn_unique {s c d : St} (h : Cn n s c) (k : Cn n s d) : c = d := by
  obtain ⟨g, T, h1, h2, rfl⟩ := h
  obtain ⟨_, S, k1, k2, rfl⟩ := k
  rw [unique _ _ (Nat.le_refl _) g T S h1 h2 k1 k2]
theorem hf_ne_iota (h2 : 2 ≤ n) : hf n ≠ iota n := fun e => by
  have := congrArg (fun l => nth l 0) e
  rw [nth_hf (by omega), nth_iota _ _ (by omega)] at this
  omega
theorem strip_iota (h2 : 2 ≤ n) (k : Int) (T : List (List Int)) : strip n k (T ++ [iota n]) = strip n k T := by
  unfold strip
  have h1 : (T ++ [iota n]).count (hf n) = T.count (hf n) := by
    rw [List.count_append, List.count_cons_of_ne (fun e => hf_ne_iota h2 e.symm)]; simp
  rw [h1, List.filter_append]
  simp
theorem strip_hf (k : Int) (T : List (List Int)) : strip n k (hf n :: T) = strip n (k + 1) T := by
  unfold strip
  rw [List.count_cons_self, List.filter_cons]
  simp; omega
theorem eqv_cn (hn : n ≤ 1000) (h2 : 2 ≤ n) {s t : St} (h : Eqv n s t) : ∀ c, Cn n s c ↔ Cn n t c := by
  induction h with
  | refl => exact fun _ => Iff.rfl
  | symm _ ih => exact fun c => (ih c).symm
  | trans _ _ ih1 ih2 => exact fun c => (ih1 c).trans (ih2 c)
  | step k g h =>
    intro c
    constructor
    · rintro ⟨_, T, r, t, e⟩; exact ⟨h.good g, T, same_end g (.one h) r t, t, e⟩
    · rintro ⟨_, T, r, t, e⟩; exact ⟨g, T, .head h r, t, e⟩
  | trail k g =>
    rename_i F
    intro c
    obtain ⟨T, r, t⟩ := exists_tight (n := n) _ F (Nat.le_refl _) g
    have g' := g.app (good_one hn (pn_iota hn))
    have c1 : Cn n (k, F) (strip n k T) := ⟨g, T, r, t, rfl⟩
    have c2 : Cn n (k, F ++ [iota n]) (strip n k T) := ⟨g', T ++ [iota n], r.post _, tight_iota t, (strip_iota h2 k T).symm⟩
    exact ⟨fun h => by rw [cn_unique h c2]; exact c1, fun h => by rw [cn_unique h c1]; exact c2⟩
  | half k g =>
    rename_i F
    intro c
    obtain ⟨T, r, t⟩ := exists_tight (n := n) _ F (Nat.le_refl _) g
    have c1 : Cn n (k + 1, F) (strip n (k + 1) T) := ⟨g, T, r, t, rfl⟩
    have c2 : Cn n (k, hf n :: F) (strip n (k + 1) T) := ⟨.cons (pn_hf hn) g, hf n :: T, r.cons _, tight_hf hn t, (strip_hf k T).symm⟩
    exact ⟨fun h => by rw [cn_unique h c2]; exact c1, fun h => by rw [cn_unique h c1]; exact c2⟩

/-! A tight sequence begins with its half twists, and ends with its identities. -/
theorem tight_lead (hn : n ≤ 1000) {a : List Int} {T : List (List Int)} (g : Good n (a :: T)) (t : Tight n (a :: T)) (h : a ≠ hf n) : hf n ∉ T := by
  induction T generalizing a with
  | nil => simp
  | cons b T ih =>
    have hb : b ≠ hf n := fun e => by
      subst e
      exact h (hf_of hn g.hd fun i hi => t.pair i hi (dn_hf hi))
    intro hm
    rcases List.mem_cons.1 hm with hm | hm
    · exact hb hm.symm
    · exact ih g.tl t.tl hb hm
theorem tight_last (hn : n ≤ 1000) {T : List (List Int)} (g : Good n (iota n :: T)) (t : Tight n (iota n :: T)) : T = List.replicate T.length (iota n) := by
  induction T with
  | nil => rfl
  | cons b T ih =>
    have hb : b = iota n := by
      refine iota_of g.tl.hd fun i hi => ?_
      have : ¬ dn b i := fun hd => t.pair i hi hd (up_iota hn hi)
      -- no crossing at the beginning: none at all
      exact Classical.byContradiction fun hu => by
        have hall : ∀ i, i + 1 < n → up (backL b) i := fun i hi => by
          unfold up
          rw [back_back g.tl.hd]
          exact (dn_or g.tl.hd hi).resolve_left (fun hd => t.pair i hi hd (up_iota hn hi))
        have e := iota_of g.tl.hd.back hall
        unfold up at hu
        rw [e, nth_iota _ _ hi, nth_iota _ _ (by omega)] at hu
        omega
    subst hb
    have := ih g.tl t.tl
    rw [List.length_cons, List.replicate_succ, ← this]
theorem eqv_iotas {F : List (List Int)} (hn : n ≤ 1000) (g : Good n F) (k : Int) : ∀ m, Eqv n (k, F ++ List.replicate m (iota n)) (k, F) := by
  intro m
  induction m with
  | zero => simp; exact .refl _
  | succ m ih =>
    rw [List.replicate_succ', ← List.append_assoc]
    refine .trans (.trail k (g.app fun x hx => ?_)) ih
    rw [List.eq_of_mem_replicate hx]; exact pn_iota hn
theorem tight_ones (hn : n ≤ 1000) : ∀ T : List (List Int), Good n T → Tight n T → ∃ U m, T = U ++ List.replicate m (iota n) ∧ iota n ∉ U := by
  intro T
  induction T with
  | nil => intro _ _; exact ⟨[], 0, rfl, by simp⟩
  | cons a T ih =>
    intro g t
    by_cases e : a = iota n
    · subst e
      have := tight_last hn g t
      exact ⟨[], T.length + 1, by rw [List.nil_append, List.replicate_succ, ← this], by simp⟩
    · obtain ⟨U, m, h1, h2⟩ := ih g.tl t.tl
      exact ⟨a :: U, m, by rw [h1]; rfl, fun hm => by
        rcases List.mem_cons.1 hm with h | h
        · exact e h.symm
        · exact h2 h⟩
theorem eqv_strip (hn : n ≤ 1000) (h2 : 2 ≤ n) : ∀ (T : List (List Int)) (k : Int), Good n T → Tight n T → Eqv n (k, T) (strip n k T) := by
  intro T
  induction T with
  | nil => intro k _ _; unfold strip; simp; exact .refl _
  | cons a T ih =>
    intro k g t
    by_cases e : a = hf n
    · subst e
      rw [strip_hf]
      exact .trans (.half k g.tl) (ih (k + 1) g.tl t.tl)
    · have hno := tight_lead hn g t e
      obtain ⟨U, m, h1, h3⟩ := tight_ones hn (a :: T) g t
      have hc : (a :: T).count (hf n) = 0 := List.count_eq_zero.2 (fun hm => by
        rcases List.mem_cons.1 hm with h | h
        · exact e h.symm
        · exact hno h)
      have hU : Good n U := fun x hx => g x (by rw [h1]; simp [hx])
      have hf' : (a :: T).filter (fun p => decide (p ≠ hf n ∧ p ≠ iota n)) = U := by
        rw [h1, List.filter_append, List.filter_eq_self.2, List.filter_eq_nil_iff.2, List.append_nil]
        · intro x hx
          rw [List.eq_of_mem_replicate hx]; simp
        · intro x hx
          simp only [decide_eq_true_eq]
          refine ⟨fun hx2 => ?_, fun hx2 => h3 (hx2 ▸ hx)⟩
          have : x ∈ a :: T := by rw [h1]; simp [hx]
          rw [hx2] at this
          exact (List.count_eq_zero.1 hc) this
      unfold strip
      rw [hc, hf', h1]
      have := eqv_iotas hn hU k m
      simpa using this
theorem cn_eqv (hn : n ≤ 1000) (h2 : 2 ≤ n) {s c : St} (h : Cn n s c) : Eqv n s c := by
  obtain ⟨g, T, r, t, rfl⟩ := h
  exact .trans (eqv_reach s.1 r g) (eqv_strip hn h2 T s.1 (r.good g) t)

/-! Letters. -/
def dgP (n i : Nat) : List Int := swapV (hf n) i
theorem pn_dg {i : Nat} (hn : n ≤ 1000) (hi : i + 1 < n) : Pn n (dgP n i) := (pn_hf hn).swapV hi
def mulS (n : Nat) (s : St) (x : Int) : St := if 0 < x then (s.1, s.2 ++ [sgP n (x.natAbs - 1)]) else (s.1 - 1, s.2.map (turnP n) ++ [dgP n (x.natAbs - 1)])
/-- A letter of n strands. -/
def Lt (n : Nat) (x : Int) : Prop := x ≠ 0 ∧ x.natAbs < n
theorem eqv_mul (hn : n ≤ 1000) {x : Int} (hx : Lt n x) {s t : St} (h : Eqv n s t) : Eqv n (mulS n s x) (mulS n t x) := by
  obtain ⟨h0, h1⟩ := hx
  have hi : x.natAbs - 1 + 1 < n := by omega
  induction h with
  | refl => exact .refl _
  | symm _ ih => exact .symm ih
  | trans _ _ ih1 ih2 => exact .trans ih1 ih2
  | step k g h =>
    unfold mulS
    split
    · exact .step k (g.app (good_one hn (pn_sg hn hi))) (h.post _)
    · exact .step _ ((good_turn g).app (good_one hn (pn_dg hn hi))) ((step_turn h g).post _)
  | trail k g =>
    rename_i F
    have go : ∀ (k : Int) {F : List (List Int)} (d : List Int), Good n F → Pn n d → Eqv n (k, F ++ [iota n] ++ [d]) (k, F ++ [d]) := by
      intro k F d g hd
      have r : Reach n ([iota n] ++ [d]) ([d] ++ [iota n]) := by
        have := rp hn (pn_iota hn) d hd (by rw [iota_then hd, inv_iota]; omega)
        rwa [iota_then hd] at this
      have r2 := r.pre F
      rw [← List.append_assoc, ← List.append_assoc] at r2
      exact .trans (eqv_reach k r2 ((g.app (good_one hn (pn_iota hn))).app (good_one hn hd))) (.trail k (g.app (good_one hn hd)))
    unfold mulS
    split
    · exact go k _ g (pn_sg hn hi)
    · simp only [List.map_append, List.map_cons, List.map_nil, turn_iota]
      exact go _ _ (good_turn g) (pn_dg hn hi)
  | half k g =>
    unfold mulS
    split
    · exact .half k (g.app (good_one hn (pn_sg hn hi)))
    · simp only [List.map_cons, turn_hf, List.cons_append]
      have := Eqv.half (n := n) (k - 1) ((good_turn g).app (good_one hn (pn_dg hn hi)))
      rwa [show k - 1 + 1 = k + 1 - 1 by omega] at this
def mulW (n : Nat) (s : St) (w : List Int) : St := w.foldl (mulS n) s
theorem mulW_append (s : St) (a b : List Int) : mulW n s (a ++ b) = mulW n (mulW n s a) b := by unfold mulW; rw [List.foldl_append]
/-- A crossing added to a factor. -/
theorem add_one (hn : n ≤ 1000) {a : List Int} {i : Nat} (ha : Pn n a) (hi : i + 1 < n) (hu : up a i) : Reach n [a, sgP n i] [swapV a i, iota n] := by
  have := Step.here (n := n) (b := sgP n i) [] hi hu (dn_sg hi)
  rw [swapAt_sg hi] at this
  exact .one this
/-- Positive letters of neighbours. -/
theorem braid_mul (hn : n ≤ 1000) {i : Nat} (hi : i + 1 + 1 < n) {s : St} (g : Good n s.2) :
    Eqv n (mulW n s [(i : Int) + 1, (i : Int) + 1 + 1, (i : Int) + 1]) (mulW n s [(i : Int) + 1 + 1, (i : Int) + 1, (i : Int) + 1 + 1]) := by
  have h0 : i + 1 < n := by omega
  have hp := pn_iota hn
  obtain ⟨u1, u2, u3, u4⟩ := up_next hp hi (up_iota hn h0) (up_iota hn hi)
  have three : ∀ i j : Nat, i + 1 < n → j + 1 < n → up (sgP n i) j → up (swapV (sgP n i) j) i →
      Eqv n (mulW n s [(i : Int) + 1, (j : Int) + 1, (i : Int) + 1]) (s.1, s.2 ++ [swapV (swapV (sgP n i) j) i, iota n, iota n]) := by
    intro i j hi hj hu hu2
    have e1 : ((i : Int) + 1).natAbs - 1 = i := by omega
    have e2 : ((j : Int) + 1).natAbs - 1 = j := by omega
    simp only [mulW, List.foldl_cons, List.foldl_nil, mulS, e1, e2]
    rw [if_pos (by omega), if_pos (by omega)]
    have ps := pn_sg hn hi
    have r1 : Reach n [sgP n i, sgP n j, sgP n i] [swapV (sgP n i) j, iota n, sgP n i] := (add_one hn ps hj hu).post [sgP n i]
    have r2 : Reach n [swapV (sgP n i) j, iota n, sgP n i] [swapV (sgP n i) j, sgP n i, iota n] := by
      have := (rp hn hp (sgP n i) ps (by rw [iota_then ps, inv_iota]; omega)).cons (swapV (sgP n i) j)
      rwa [iota_then ps] at this
    have r3 : Reach n [swapV (sgP n i) j, sgP n i, iota n] [swapV (swapV (sgP n i) j) i, iota n, iota n] := (add_one hn (ps.swapV hj) hi hu2).post [iota n]
    have := eqv_reach s.1 ((r1.trans (r2.trans r3)).pre s.2) (g.app (.cons ps (.cons (pn_sg hn hj) (good_one hn ps))))
    simpa using this
  have c1 := three i (i + 1) h0 hi u1 u2
  have c2 := three (i + 1) i hi h0 u3 u4
  rw [show ((i + 1 : Nat) : Int) = (i : Int) + 1 by omega] at c1 c2
  refine .trans c1 (.symm (.trans c2 ?_))
  unfold sgP
  rw [← swapV_braid]
  exact .refl _
end

end Go.Proofs.Ytmcecmnbdcbehaa

namespace Go.Proofs.Ytmcecmnbdcbehaa
open Go.RowKit Go.Sl

/-- The call's own slice of the call's own rows, none empty, each in a block of its own. -/
structure RO (W : World) (B : Nat) (v : Value) (vs : List Value) (xss : List (List Int)) : Prop where
  own : Go.Sl.Own W B 25 1 v vs
  len : vs.length = xss.length
  row : ∀ i, i < xss.length → OwnI W B (nthv vs i) (nthr xss i)
  pos : ∀ i, i < xss.length → 0 < (nthr xss i).length
  apart : ∀ i, i < xss.length → Go.Sl.row v ≠ some (vblk (nthv vs i))
  each : ∀ i j, i < j → j < xss.length → vblk (nthv vs i) ≠ vblk (nthv vs j)
section
variable {W W' : World} {B : Nat} {u r : Value} {vs : List Value} {xss : List (List Int)} {ys : List Int}
theorem RO.rows (h : RO W B u vs xss) : RowsV W u vs xss := ⟨h.own.sl, h.len, fun i hi => (h.row i hi).ints⟩
theorem RO.below (h : RO W B u vs xss) (hb : Below W.heap.size W W') : RO W' B u vs xss := ⟨h.own.below hb, h.len, fun i hi => (h.row i hi).below hb, h.pos, h.apart, h.each⟩
theorem RO.low {B' : Nat} (h : RO W B u vs xss) (hB : B' ≤ B) : RO W B' u vs xss := ⟨h.own.low hB, h.len, fun i hi => (h.row i hi).low hB, h.pos, h.apart, h.each⟩
theorem RO.rowAt (h : RO W B u vs xss) {i : Nat} (hi : i < xss.length) : Go.Sl.row (nthv vs i) = some (vblk (nthv vs i)) := row_some (by have := (h.row i hi).ints.cap; have := h.pos i hi; omega)
theorem RO.blk (h : RO W B u vs xss) {i : Nat} (hi : i < xss.length) : B ≤ vblk (nthv vs i) ∧ vblk (nthv vs i) < W.heap.size := (h.row i hi).lt _ (h.rowAt hi)
end
end Go.Proofs.Ytmcecmnbdcbehaa


/- Permutations as lists of numbers: composition, inverse, and that they are a group. No program. -/
import Derived.Test.YtnkahkahcajahaaSlices
namespace Go.Proofs.Ytnkahkahcajahaa
open Go.RowKit Go.Sl

def iota (n : Nat) : List Int := (List.range n).map Int.ofNat
theorem iota_length (n : Nat) : (iota n).length = n := by simp [iota]
theorem nth_iota (n k : Nat) (h : k < n) : nth (iota n) k = k := by rw [nth_lt (by rw [iota_length]; exact h)]; simp [iota]
theorem mem_iota {n : Nat} {x : Int} : x ∈ iota n ↔ 0 ≤ x ∧ x < n := by
  simp only [iota, List.mem_map, List.mem_range]
  constructor
  · rintro ⟨a, h, rfl⟩; simp; omega
  · rintro ⟨h1, h2⟩; exact ⟨x.toNat, by omega, by simp; omega⟩
theorem iota_nodup (n : Nat) : (iota n).Nodup := by
  unfold iota
  rw [List.nodup_iff_pairwise_ne] at *
  rw [List.pairwise_map]
  refine List.Pairwise.imp ?_ List.nodup_range
  intro a b h e
  exact h (Int.ofNat.inj e)
theorem ext_nth {xs ys : List Int} (hl : xs.length = ys.length) (h : ∀ k, k < xs.length → nth xs k = nth ys k) : xs = ys := by
  apply List.ext_getElem hl
  intro j h1 h2
  have := h j h1
  rwa [nth_lt h1, nth_lt h2] at this

def thenL (a b : List Int) : List Int := a.map fun x => nth b x.toNat
theorem thenL_length (a b : List Int) : (thenL a b).length = a.length := by simp [thenL]
theorem nth_thenL (a b : List Int) (k : Nat) (h : k < a.length) : nth (thenL a b) k = nth b (nth a k).toNat := by
  rw [nth_lt (by rw [thenL_length]; exact h)]; simp [thenL, nth_lt h]

/-- A permutation of small degree, as a list. -/
structure IsPerm (xs : List Int) : Prop where
  perm : xs.Perm (iota xs.length)
  small : xs.length ≤ 1000
theorem IsPerm.range {xs : List Int} (h : IsPerm xs) : ∀ x ∈ xs, 0 ≤ x ∧ x < xs.length := fun _ hx => mem_iota.1 (h.perm.mem_iff.1 hx)
theorem IsPerm.nodup {xs : List Int} (h : IsPerm xs) : xs.Nodup := h.perm.nodup_iff.2 (iota_nodup _)
theorem IsPerm.hit {xs : List Int} (h : IsPerm xs) {k : Nat} (hk : k < xs.length) : ∃ j, j < xs.length ∧ nth xs j = k := by
  have : (k : Int) ∈ xs := h.perm.mem_iff.2 (mem_iota.2 ⟨by omega, by omega⟩)
  obtain ⟨j, hj, he⟩ := List.getElem_of_mem this
  exact ⟨j, hj, by rw [nth_lt hj]; exact he⟩
theorem isPerm_iota {n : Nat} (h : n ≤ 1000) : IsPerm (iota n) := ⟨by rw [iota_length], by rw [iota_length]; exact h⟩

theorem thenL_iota (b : List Int) : thenL (iota b.length) b = b := by
  apply ext_nth (by rw [thenL_length, iota_length])
  intro k hk
  rw [thenL_length, iota_length] at hk
  rw [nth_thenL _ _ _ (by rw [iota_length]; exact hk), nth_iota _ _ hk]; simp
theorem iota_thenL {a : List Int} (h : ∀ x ∈ a, 0 ≤ x ∧ x < a.length) : thenL a (iota a.length) = a := by
  apply ext_nth (by rw [thenL_length])
  intro k hk
  rw [thenL_length] at hk
  have := h _ (nth_mem hk)
  rw [nth_thenL _ _ _ hk, nth_iota _ _ (by omega)]; omega
theorem thenL_assoc {a b c : List Int} (h : ∀ x ∈ a, 0 ≤ x ∧ x < b.length) : thenL (thenL a b) c = thenL a (thenL b c) := by
  apply ext_nth (by simp [thenL_length])
  intro k hk
  simp only [thenL_length] at hk
  have := h _ (nth_mem hk)
  rw [nth_thenL _ _ _ (by rw [thenL_length]; exact hk), nth_thenL _ _ _ hk, nth_thenL _ _ _ hk, nth_thenL _ _ _ (by omega)]
theorem IsPerm.then {a b : List Int} (ha : IsPerm a) (hb : IsPerm b) (hl : a.length = b.length) : IsPerm (thenL a b) := by
  refine ⟨?_, by rw [thenL_length]; exact ha.small⟩
  rw [thenL_length, hl]
  have h1 : (thenL a b).Perm (thenL (iota a.length) b) := ha.perm.map _
  rw [hl, thenL_iota] at h1
  exact h1.trans hb.perm

/-- The first k numbers of a permutation written at their places. -/
def backTo (xs : List Int) (k : Nat) : List Int := (List.range k).foldl (fun acc i => acc.set (nth xs i).toNat i) (List.replicate xs.length 0)
def backL (xs : List Int) : List Int := backTo xs xs.length
theorem backTo_zero (xs : List Int) : backTo xs 0 = List.replicate xs.length 0 := rfl
theorem backTo_succ (xs : List Int) (k : Nat) : backTo xs (k + 1) = (backTo xs k).set (nth xs k).toNat k := by
  simp [backTo, List.range_succ]
theorem backTo_length (xs : List Int) (k : Nat) : (backTo xs k).length = xs.length := by
  induction k with
  | zero => simp [backTo]
  | succ k ih => rw [backTo_succ]; simp [ih]
theorem backL_length (xs : List Int) : (backL xs).length = xs.length := backTo_length _ _
theorem nth_set_same {xs : List Int} {k : Nat} (x : Int) (h : k < xs.length) : nth (xs.set k x) k = x := by
  rw [nth_lt (by simpa using h)]; simp
theorem nth_set_other {xs : List Int} {k j : Nat} (x : Int) (h : k ≠ j) : nth (xs.set k x) j = nth xs j := by
  simp [nth, List.getElem?_set_ne h]
theorem IsPerm.inj {xs : List Int} (h : IsPerm xs) {i j : Nat} (hi : i < xs.length) (hj : j < xs.length) (e : nth xs i = nth xs j) : i = j := by
  rw [nth_lt hi, nth_lt hj] at e
  exact (List.getElem_inj h.nodup).1 e
theorem backTo_hit {xs : List Int} (h : IsPerm xs) (k : Nat) (hk : k ≤ xs.length) : ∀ j, j < k → nth (backTo xs k) (nth xs j).toNat = j := by
  induction k with
  | zero => intro j hj; omega
  | succ k ih =>
    intro j hj
    have hrk := h.range _ (nth_mem (xs := xs) (k := k) (by omega))
    rw [backTo_succ]
    rcases Nat.lt_or_ge j k with h1 | h1
    · have hrj := h.range _ (nth_mem (xs := xs) (k := j) (by omega))
      rw [nth_set_other _ (fun e => by
        have := h.inj (i := k) (j := j) (by omega) (by omega) (by omega)
        omega)]
      exact ih (by omega) j h1
    · have e : j = k := by omega
      subst e
      rw [nth_set_same _ (by rw [backTo_length]; omega)]
theorem then_back {xs : List Int} (h : IsPerm xs) : thenL xs (backL xs) = iota xs.length := by
  apply ext_nth (by rw [thenL_length, iota_length])
  intro k hk
  rw [thenL_length] at hk
  rw [nth_thenL _ _ _ hk, nth_iota _ _ hk]
  exact backTo_hit h _ (Nat.le_refl _) k hk
theorem back_then {xs : List Int} (h : IsPerm xs) : thenL (backL xs) xs = iota xs.length := by
  apply ext_nth (by rw [thenL_length, iota_length, backL_length])
  intro k hk
  rw [thenL_length, backL_length] at hk
  rw [nth_thenL _ _ _ (by rw [backL_length]; exact hk), nth_iota _ _ hk]
  obtain ⟨j, hj, he⟩ := h.hit hk
  have := backTo_hit h _ (Nat.le_refl _) j hj
  rw [he] at this
  simp only [Int.toNat_natCast] at this
  unfold backL
  rw [this, Int.toNat_natCast, he]
theorem IsPerm.back {xs : List Int} (h : IsPerm xs) : IsPerm (backL xs) := by
  refine ⟨?_, by rw [backL_length]; exact h.small⟩
  have h1 : (thenL xs (backL xs)).Perm (thenL (iota xs.length) (backL xs)) := h.perm.map _
  rw [then_back h] at h1
  have h2 := thenL_iota (backL xs)
  rw [backL_length] at h2 ⊢
  rw [h2] at h1
  exact h1.symm

/-! ### The maker of permutations -/
def pick (raw rest : List Int) : Nat := match raw with
  | [] => 0
  | x :: _ => (x % rest.length).toNat
def permGo : Nat → List Int → List Int → List Int
  | 0, _, _ => []
  | f + 1, raw, rest => nth rest (pick raw rest) :: permGo f raw.tail (rest.eraseIdx (pick raw rest))
def permL (n : Nat) (raw : List Int) : List Int := permGo n raw (iota n)
theorem pick_lt (raw rest : List Int) (h : 0 < rest.length) : pick raw rest < rest.length := by
  unfold pick
  split
  · exact h
  · rename_i x _
    have h1 := Int.emod_nonneg x (b := (rest.length : Int)) (by omega)
    have h2 := Int.emod_lt_of_pos x (b := (rest.length : Int)) (by omega)
    omega
theorem erase_perm (l : List Int) (i : Nat) (h : i < l.length) : (l[i] :: l.eraseIdx i).Perm l := by
  rw [List.eraseIdx_eq_take_drop_succ]
  have e : l = l.take i ++ l[i] :: l.drop (i + 1) := by rw [← List.drop_eq_getElem_cons h, List.take_append_drop]
  conv => rhs; rw [e]
  exact List.perm_middle.symm
theorem permGo_perm (f : Nat) : ∀ raw rest, rest.length = f → (permGo f raw rest).Perm rest := by
  induction f with
  | zero => intro raw rest h; rw [List.length_eq_zero_iff.1 h]; exact List.Perm.refl _
  | succ f ih =>
    intro raw rest h
    have hp := pick_lt raw rest (by omega)
    have h1 := ih raw.tail (rest.eraseIdx (pick raw rest)) (by rw [List.length_eraseIdx]; split <;> omega)
    rw [permGo, nth_lt hp]
    exact (h1.cons _).trans (erase_perm _ _ hp)
theorem permL_length (n : Nat) (raw : List Int) : (permL n raw).length = n := by
  have := (permGo_perm n raw (iota n) (iota_length n)).length_eq
  rw [iota_length] at this; exact this
theorem permL_isPerm {n : Nat} (raw : List Int) (h : n ≤ 1000) : IsPerm (permL n raw) :=
  ⟨by rw [permL_length]; exact permGo_perm n raw (iota n) (iota_length n), by rw [permL_length]; exact h⟩
theorem permL_nil (n : Nat) : permL n [] = iota n := by
  have key : ∀ f : Nat, ∀ rest : List Int, rest.length = f → permGo f [] rest = rest := by
    intro f
    induction f with
    | zero => intro rest h; rw [List.length_eq_zero_iff.1 h]; rfl
    | succ f ih =>
      intro rest h
      match rest, h with
      | r :: rs, h =>
        simp only [permGo, pick, List.tail_nil, List.eraseIdx_zero, List.tail_cons]
        rw [ih rs (by simpa using h)]; rfl
  exact key n _ (iota_length n)

/-! ### The rank -/
def smallerTo (xs : List Int) (x : Int) (j : Nat) : Nat := ((xs.take j).filter fun y => decide (y < x)).length
theorem smallerTo_succ (xs : List Int) (x : Int) (j : Nat) (h : j < xs.length) : smallerTo xs x (j + 1) = smallerTo xs x j + if nth xs j < x then 1 else 0 := by
  unfold smallerTo
  rw [List.take_succ_eq_append_getElem h, List.filter_append, nth_lt h]
  by_cases hlt : xs[j] < x <;> simp [hlt]
theorem smallerTo_le (xs : List Int) (x : Int) (j : Nat) : smallerTo xs x j ≤ j := Nat.le_trans (List.length_filter_le _ _) (List.length_take_le _ _)
def rankTo (xs : List Int) : Nat → Nat
  | 0 => 0
  | k + 1 => rankTo xs k * (xs.length - k) + smallerTo (xs.drop (k + 1)) (nth xs k) (xs.length - (k + 1))
def rankL (xs : List Int) : Nat := rankTo xs xs.length
theorem rankTo_lt (xs : List Int) (hl : xs.length ≤ 9) (k : Nat) (hk : k ≤ xs.length) : rankTo xs k < 10 ^ k := by
  induction k with
  | zero => simp [rankTo]
  | succ k ih =>
    have h1 := ih (by omega)
    have h2 := smallerTo_le (xs.drop (k + 1)) (nth xs k) (xs.length - (k + 1))
    have h3 : rankTo xs k * (xs.length - k) ≤ rankTo xs k * 9 := Nat.mul_le_mul_left _ (by omega)
    rw [rankTo, Nat.pow_succ]
    omega
theorem rankTo_small (xs : List Int) (hl : xs.length ≤ 9) (k : Nat) (hk : k ≤ xs.length) : rankTo xs k ≤ 1000000000 := by
  have h := rankTo_lt xs hl k hk
  have : 10 ^ k ≤ 10 ^ 9 := Nat.pow_le_pow_right (by omega) (by omega)
  omega

end Go.Proofs.Ytnkahkahcajahaa

/- Colors of positions along a braid word: plain law. -/
import Derived.Test.YtpnbkoihglppnaaFreeLaw
import Derived.Test.YtpnbkoihglppnaaSlices
namespace Go.Proofs.Ytpnbkoihglppnaa
open Go.RowKit Go.Sl

/-- The colors after a letter. -/
def cstep (m : Int) (c : List Int) (x : Int) : List Int :=
  let a := nth c (x.natAbs - 1)
  let b := nth c x.natAbs
  if 0 < x then (c.set (x.natAbs - 1) ((2 * a - b + m) % m)).set x.natAbs a else (c.set (x.natAbs - 1) b).set x.natAbs ((2 * b - a + m) % m)
/-- The colors after a word. -/
def prop (m : Int) (c w : List Int) : List Int := w.foldl (cstep m) c
def Colors (m : Int) (c : List Int) : Prop := ∀ x ∈ c, 0 ≤ x ∧ x < m

theorem cstep_length (m : Int) (c : List Int) (x : Int) : (cstep m c x).length = c.length := by
  unfold cstep; simp only; split <;> simp
theorem prop_length (m : Int) (c w : List Int) : (prop m c w).length = c.length := by
  unfold prop
  induction w generalizing c with
  | nil => rfl
  | cons x w ih => rw [List.foldl_cons, ih, cstep_length]
theorem mem_set_cases {c : List Int} {i : Nat} {a y : Int} (h : y ∈ c.set i a) : y = a ∨ y ∈ c := by
  rcases List.mem_or_eq_of_mem_set h with h | h
  · exact .inr h
  · exact .inl h
theorem cstep_colors {m : Int} {c : List Int} {x : Int} (hm : 0 < m) (hc : Colors m c) (hx : x.natAbs < c.length) : Colors m (cstep m c x) := by
  have ha := hc _ (nth_mem (show x.natAbs - 1 < c.length by omega))
  have hb := hc _ (nth_mem hx)
  intro y hy
  have e1 := Int.emod_nonneg (2 * nth c (x.natAbs - 1) - nth c x.natAbs + m) (show m ≠ 0 by omega)
  have e2 := Int.emod_lt_of_pos (2 * nth c (x.natAbs - 1) - nth c x.natAbs + m) hm
  have e3 := Int.emod_nonneg (2 * nth c x.natAbs - nth c (x.natAbs - 1) + m) (show m ≠ 0 by omega)
  have e4 := Int.emod_lt_of_pos (2 * nth c x.natAbs - nth c (x.natAbs - 1) + m) hm
  unfold cstep at hy
  simp only at hy
  split at hy
  · rcases mem_set_cases hy with rfl | hy
    · exact ha
    · rcases mem_set_cases hy with rfl | hy
      · exact ⟨e1, e2⟩
      · exact hc y hy
  · rcases mem_set_cases hy with rfl | hy
    · exact ⟨e3, e4⟩
    · rcases mem_set_cases hy with rfl | hy
      · exact hb
      · exact hc y hy
theorem prop_colors {m : Int} {c w : List Int} (hm : 0 < m) (hc : Colors m c) (hw : ∀ x ∈ w, x.natAbs < c.length) : Colors m (prop m c w) := by
  unfold prop
  induction w generalizing c with
  | nil => exact hc
  | cons x w ih =>
    rw [List.foldl_cons]
    exact ih (cstep_colors hm hc (hw x (by simp))) fun y hy => by rw [cstep_length]; exact hw y (by simp [hy])
theorem prop_append (m : Int) (c u v : List Int) : prop m c (u ++ v) = prop m (prop m c u) v := by simp [prop]

theorem nth_set (c : List Int) (i k : Nat) (a : Int) (hi : i < c.length) : nth (c.set i a) k = if k = i then a else nth c k := by
  unfold nth
  by_cases h : k = i
  · subst h; simp [hi]
  · rw [if_neg h]; simp [List.getElem?_set, Ne.symm h, List.getD_eq_getElem?_getD]
theorem emod_back {m a b : Int} (hm : 0 < m) (ha : 0 ≤ b ∧ b < m) : (2 * a - (2 * a - b + m) % m + m) % m = b := by
  have h1 := Int.emod_add_mul_ediv (2 * a - b + m) m
  obtain ⟨q, hq⟩ : ∃ q, (2 * a - b + m) / m = q := ⟨_, rfl⟩
  obtain ⟨r, hr⟩ : ∃ r, (2 * a - b + m) % m = r := ⟨_, rfl⟩
  rw [hq, hr] at h1
  rw [hr]
  have : 2 * a - r + m = b + m * q := by omega
  rw [this, Int.add_mul_emod_self_left, Int.emod_eq_of_lt ha.1 ha.2]
theorem cstep_back {m : Int} {c : List Int} {x : Int} (hm : 0 < m) (hc : Colors m c) (hx : x.natAbs < c.length) (h0 : x ≠ 0) : cstep m (cstep m c x) (-x) = c := by
  have ha := hc _ (nth_mem (show x.natAbs - 1 < c.length by omega))
  have hb := hc _ (nth_mem hx)
  obtain ⟨i, hi⟩ : ∃ i, x.natAbs = i + 1 := ⟨x.natAbs - 1, by omega⟩
  rw [hi] at ha hb hx
  simp only [Nat.add_sub_cancel] at ha
  have hne : i ≠ i + 1 := by omega
  have hl1 : i < c.length := by omega
  refine ext_nth (by rw [cstep_length, cstep_length]) fun k hk => ?_
  rw [cstep_length, cstep_length] at hk
  by_cases hp : 0 < x
  · have hn : ¬ 0 < -x := by omega
    unfold cstep
    simp only [Int.natAbs_neg, hi, Nat.add_sub_cancel, if_pos hp, if_neg hn]
    simp only [nth_set, List.length_set, hx, hl1, if_true, if_neg hne, if_neg (Ne.symm hne)]
    by_cases h1 : k = i + 1
    · subst h1; rw [if_pos rfl]; exact emod_back hm hb
    · rw [if_neg h1]
      by_cases h2 : k = i
      · subst h2; rw [if_pos rfl]
      · rw [if_neg h2, if_neg h1, if_neg h2]
  · have hn : 0 < -x := by omega
    unfold cstep
    simp only [Int.natAbs_neg, hi, Nat.add_sub_cancel, if_neg hp, if_pos hn]
    simp only [nth_set, List.length_set, hx, hl1, if_true, if_neg hne, if_neg (Ne.symm hne)]
    by_cases h1 : k = i + 1
    · subst h1; rw [if_pos rfl]
    · rw [if_neg h1]
      by_cases h2 : k = i
      · subst h2; rw [if_pos rfl]; exact emod_back hm ha
      · rw [if_neg h2, if_neg h1, if_neg h2]
theorem prop_back {m : Int} {c w : List Int} (hm : 0 < m) (hc : Colors m c) (hw : ∀ x ∈ w, x ≠ 0 ∧ x.natAbs < c.length) : prop m (prop m c w) (invL w) = c := by
  unfold prop invL
  induction w generalizing c with
  | nil => rfl
  | cons x w ih =>
    have hx := hw x (by simp)
    rw [List.foldl_cons, List.map_cons, List.reverse_cons, List.foldl_append, ih (cstep_colors hm hc hx.2) fun y hy => by rw [cstep_length]; exact hw y (by simp [hy])]
    simp only [List.foldl_cons, List.foldl_nil]
    exact cstep_back hm hc hx.2 hx.1

end Go.Proofs.Ytpnbkoihglppnaa

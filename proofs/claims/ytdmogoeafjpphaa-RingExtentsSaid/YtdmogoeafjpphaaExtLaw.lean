/- Extents: the changes that the program makes; all rows differ, the last one is rounds. No program. -/
import Derived.Test.YtdmogoeafjpphaaRingRows
import Derived.Test.YtdmogoeafjpphaaRankLaw
namespace Go.Proofs.Ytdmogoeafjpphaa
open Go.RowKit Go.Sl

def pw (k : Nat) : Int := ((2 ^ k : Nat) : Int)
/-- The changes of one lead: while the last bell goes through the others; then a change of the others. -/
def leadL (n j : Nat) (c : Int) : List Int := (List.range (n - 1)).map (fun i => if j % 2 = 0 then pw (n - 2 - i) else pw i) ++ [if j % 2 = 0 then 2 * c else c]
def extTo (n : Nat) (prev : List Int) : Nat → List Int
  | 0 => []
  | j + 1 => extTo n prev j ++ leadL n j (nth prev j)
def extL : Nat → List Int
  | 0 => [1, 1]
  | 1 => [1, 1]
  | 2 => [1, 1]
  | n + 3 => extTo (n + 3) (extL (n + 2)) (extL (n + 2)).length
def fac : Nat → Nat
  | 0 => 1
  | n + 1 => fac n * (n + 1)
theorem leadL_length (n j : Nat) (c : Int) (h : 0 < n) : (leadL n j c).length = n := by simp [leadL]; omega
theorem extTo_length (n : Nat) (prev : List Int) (h : 0 < n) : ∀ j, (extTo n prev j).length = j * n := by
  intro j
  induction j with
  | zero => simp [extTo]
  | succ j ih => rw [extTo, List.length_append, ih, leadL_length _ _ _ h, Nat.succ_mul]
theorem extL_length : ∀ n, 2 ≤ n → (extL n).length = fac n
  | 2, _ => rfl
  | n + 3, _ => by
    have ih := extL_length (n + 2) (by omega)
    rw [extL, extTo_length _ _ (by omega), ih]; rfl
/-- A change of one pair. -/
def Pow (n : Nat) (c : Int) : Prop := ∃ k, k + 1 < n ∧ c = pw k
theorem leadL_pow {n j : Nat} {c : Int} (h : 3 ≤ n) (hc : Pow (n - 1) c) : ∀ x ∈ leadL n j c, Pow n x := by
  intro x hx
  unfold leadL at hx
  rcases List.mem_append.1 hx with hx | hx
  · obtain ⟨i, hi, rfl⟩ := List.mem_map.1 hx
    have := List.mem_range.1 hi
    split
    · exact ⟨n - 2 - i, by omega, rfl⟩
    · exact ⟨i, by omega, rfl⟩
  · simp only [List.mem_singleton] at hx
    subst hx
    obtain ⟨k, hk, rfl⟩ := hc
    split
    · exact ⟨k + 1, by omega, by unfold pw; rw [Nat.pow_succ]; omega⟩
    · exact ⟨k, by omega, rfl⟩
theorem extTo_pow {n : Nat} {prev : List Int} (h : 3 ≤ n) (hp : ∀ x ∈ prev, Pow (n - 1) x) : ∀ j, j ≤ prev.length → ∀ x ∈ extTo n prev j, Pow n x := by
  intro j
  induction j with
  | zero => intro _ x hx; cases hx
  | succ j ih =>
    intro hj x hx
    rw [extTo] at hx
    rcases List.mem_append.1 hx with hx | hx
    · exact ih (by omega) x hx
    · exact leadL_pow h (hp _ (nth_mem (by omega))) x hx
theorem extL_pow : ∀ n, 2 ≤ n → ∀ x ∈ extL n, Pow n x
  | 2, _ => by intro x hx; simp [extL] at hx; subst hx; exact ⟨0, by omega, rfl⟩
  | n + 3, _ => by
    have ih := extL_pow (n + 2) (by omega)
    rw [extL]
    exact extTo_pow (by omega) ih _ (Nat.le_refl _)

/-- The same by exponents. -/
def leadE (n j k : Nat) : List Nat := (List.range (n - 1)).map (fun i => if j % 2 = 0 then n - 2 - i else i) ++ [if j % 2 = 0 then k + 1 else k]
def goE (n : Nat) : Nat → List Nat → List Nat
  | _, [] => []
  | j, k :: t => leadE n j k ++ goE n (j + 1) t
def extE : Nat → List Nat
  | 0 => [0, 0]
  | 1 => [0, 0]
  | 2 => [0, 0]
  | n + 3 => goE (n + 3) 0 (extE (n + 2))
def swapN : List Nat → Nat → List Nat
  | a :: b :: t, 0 => b :: a :: t
  | a :: t, k + 1 => a :: swapN t k
  | l, _ => l
def cntN (x : Nat) : List Nat → Nat
  | [] => 0
  | y :: t => cond (Nat.blt y x) (cntN x t + 1) (cntN x t)
def rkN : List Nat → Nat
  | [] => 0
  | x :: t => cntN x t * fact t.length + rkN t
/-- A check that the kernel can run: the ranks seen are bits of a number. -/
def seenN : List Nat → Nat → List Nat → Option (List Nat)
  | row, _, [] => some row
  | row, mask, k :: ks => cond (mask.testBit (rkN (swapN row k))) none (seenN (swapN row k) (mask ||| (1 <<< rkN (swapN row k))) ks)
def ranksN : List Nat → List Nat → List Nat
  | _, [] => []
  | row, k :: ks => rkN (swapN row k) :: ranksN (swapN row k) ks
theorem seen_sound (ks : List Nat) : ∀ row mask fin, seenN row mask ks = some fin → fin = ks.foldl swapN row ∧ (ranksN row ks).Nodup ∧ ∀ r ∈ ranksN row ks, mask.testBit r = false := by
  induction ks with
  | nil => intro row mask fin h; exact ⟨(Option.some.inj h).symm, List.nodup_nil, fun r hr => by cases hr⟩
  | cons k ks ih =>
    intro row mask fin h
    rw [seenN] at h
    cases hb : mask.testBit (rkN (swapN row k)) with
    | true => rw [hb] at h; cases h
    | false =>
      rw [hb] at h
      obtain ⟨h1, h2, h3⟩ := ih _ _ _ h
      have h4 : ∀ r ∈ ranksN (swapN row k) ks, mask.testBit r = false ∧ r ≠ rkN (swapN row k) := fun r hr => by
        have := h3 r hr
        rw [Nat.testBit_or, Bool.or_eq_false_iff] at this
        refine ⟨this.1, fun e => ?_⟩
        have h5 := this.2
        rw [e, Nat.testBit_shiftLeft] at h5
        simp at h5
      refine ⟨h1, List.nodup_cons.2 ⟨fun hm => (h4 _ hm).2 rfl, h2⟩, fun r hr => ?_⟩
      rcases List.mem_cons.1 hr with rfl | hr
      · exact hb
      · exact (h4 r hr).1
theorem ranksN_get (ks : List Nat) : ∀ row j, j < ks.length → (ranksN row ks)[j]? = some (rkN ((ks.take (j + 1)).foldl swapN row)) := by
  induction ks with
  | nil => intro row j h; simp at h
  | cons k ks ih =>
    intro row j h
    rw [ranksN]
    cases j with
    | zero => simp
    | succ j => simpa using ih (swapN row k) j (by simpa using h)

theorem cntN_less (x : Nat) (t : List Nat) : less (t.map Int.ofNat) (Int.ofNat x) = cntN x t := by
  induction t with
  | nil => rfl
  | cons y t ih =>
    rw [cntN, ← ih]
    unfold less
    cases hb : Nat.blt y x with
    | true =>
      have : y < x := by simpa [Nat.blt_eq] using hb
      simp [this]
    | false =>
      have : ¬ y < x := fun h => by rw [← Nat.blt_eq, hb] at h; cases h
      simp [this]
theorem rkN_rk (t : List Nat) : rk (t.map Int.ofNat) = rkN t := by
  induction t with
  | nil => rfl
  | cons x t ih => rw [List.map_cons, rk, rkN, ih, cntN_less, List.length_map]
theorem swapN_length (l : List Nat) : ∀ k, (swapN l k).length = l.length := by
  induction l with
  | nil => intro k; rfl
  | cons a t ih =>
    intro k
    cases t with
    | nil => cases k with
      | zero => rfl
      | succ k => rw [swapN, List.length_cons, ih]; rfl
    | cons b t => cases k with
      | zero => rfl
      | succ k => rw [swapN, List.length_cons, ih]; rfl
theorem swapN_at (l : List Nat) : ∀ k, k + 1 < l.length → swapAt (l.map Int.ofNat) k = (swapN l k).map Int.ofNat := by
  induction l with
  | nil => intro k h; simp at h
  | cons a t ih =>
    intro k h
    cases t with
    | nil => simp at h
    | cons b t =>
      cases k with
      | zero => simp [swapAt, swapN, nth]
      | succ k =>
        rw [List.map_cons, swapAt_cons, ih k (by simpa using h), swapN]
        rfl
theorem ring_pow (row : List Int) (k m : Nat) : ringTo row (2 ^ k) m = if k < m then swapAt row k else row := by
  induction m with
  | zero => simp [ringTo]
  | succ m ih =>
    rw [ringTo, ih, Nat.testBit_two_pow]
    by_cases h : k = m
    · subst h; simp
    · by_cases h2 : k < m
      · simp [h, h2]; omega
      · simp [h, h2]; omega
theorem ringL_pw (row : List Int) {k : Nat} (h : k + 1 < row.length) : ringL row (pw k).toNat = swapAt row k := by
  unfold ringL pw
  rw [Int.toNat_natCast, ring_pow, if_pos (by omega)]
theorem runL_pw (ks : List Nat) : ∀ row : List Nat, (∀ k ∈ ks, k + 1 < row.length) → runL (row.map Int.ofNat) (ks.map pw) = (ks.foldl swapN row).map Int.ofNat := by
  induction ks with
  | nil => intro row _; rfl
  | cons k ks ih =>
    intro row h
    show runL (ringL (row.map Int.ofNat) (pw k).toNat) (ks.map pw) = _
    rw [ringL_pw _ (by rw [List.length_map]; exact h k (by simp)), swapN_at _ _ (h k (by simp)), ih _ (fun q hq => by rw [swapN_length]; exact h q (by simp [hq]))]
    rfl

theorem pw_succ (k : Nat) : 2 * pw k = pw (k + 1) := by unfold pw; rw [Nat.pow_succ]; omega
theorem leadE_map (n j k : Nat) : (leadE n j k).map pw = leadL n j (pw k) := by
  unfold leadE leadL
  rw [List.map_append, List.map_map]
  congr 1
  · refine List.map_congr_left fun i _ => ?_
    show pw (if j % 2 = 0 then n - 2 - i else i) = _
    split <;> rfl
  · show [pw (if j % 2 = 0 then k + 1 else k)] = _
    rw [pw_succ]
    split <;> rfl
def goL (n : Nat) : Nat → List Int → List Int
  | _, [] => []
  | j, c :: t => leadL n j c ++ goL n (j + 1) t
theorem goE_map (n : Nat) (ks : List Nat) : ∀ j, (goE n j ks).map pw = goL n j (ks.map pw) := by
  induction ks with
  | nil => intro j; rfl
  | cons k t ih => intro j; rw [goE, List.map_append, leadE_map, ih]; rfl
theorem goL_snoc (n : Nat) (c : Int) (t : List Int) : ∀ j, goL n j (t ++ [c]) = goL n j t ++ leadL n (j + t.length) c := by
  induction t with
  | nil => intro j; simp [goL]
  | cons a t ih => intro j; rw [List.cons_append, goL, goL, ih, List.append_assoc, List.length_cons, show j + 1 + t.length = j + (t.length + 1) by omega]
theorem extTo_go (n : Nat) (prev : List Int) : ∀ j, j ≤ prev.length → extTo n prev j = goL n 0 (prev.take j) := by
  intro j
  induction j with
  | zero => intro _; rfl
  | succ j ih =>
    intro h
    rw [extTo, ih (by omega), List.take_succ_eq_append_getElem (by omega), goL_snoc, nth_lt (by omega), List.length_take, Nat.zero_add, Nat.min_eq_left (by omega)]
theorem extL_E : ∀ n, extL n = (extE n).map pw
  | 0 => rfl
  | 1 => rfl
  | 2 => rfl
  | n + 3 => by
    have ih := extL_E (n + 2)
    rw [extL, extE, extTo_go _ _ _ (Nat.le_refl _), List.take_length, ih, goE_map]
theorem pw_inj {a b : Nat} (h : pw a = pw b) : a = b := by
  have h' : 2 ^ a = 2 ^ b := Int.ofNat.inj h
  rcases Nat.lt_trichotomy a b with hl | hl | hl
  · have := Nat.pow_lt_pow_right (show 1 < 2 by omega) hl; omega
  · exact hl
  · have := Nat.pow_lt_pow_right (show 1 < 2 by omega) hl; omega
theorem extE_lt {n : Nat} (h : 2 ≤ n) : ∀ k ∈ extE n, k + 1 < n := by
  intro k hk
  obtain ⟨q, hq, e⟩ := extL_pow n h (pw k) (by rw [extL_E]; exact List.mem_map_of_mem hk)
  rw [pw_inj e]; exact hq

theorem seen2 : seenN (List.range 2) 0 (extE 2) = some (List.range 2) := by decide +kernel
theorem seen3 : seenN (List.range 3) 0 (extE 3) = some (List.range 3) := by decide +kernel
theorem seen4 : seenN (List.range 4) 0 (extE 4) = some (List.range 4) := by decide +kernel
theorem seen5 : seenN (List.range 5) 0 (extE 5) = some (List.range 5) := by decide +kernel
theorem seen6 : seenN (List.range 6) 0 (extE 6) = some (List.range 6) := by decide +kernel
theorem seen7 : seenN (List.range 7) 0 (extE 7) = some (List.range 7) := by decide +kernel
/-- The rank of row j + 1. -/
def rkAt (n : Nat) (cs : List Int) (j : Nat) : Nat := rankL (runL (iota n) (cs.take (j + 1)))
theorem ext_facts {n : Nat} (h2 : 2 ≤ n) (h7 : n ≤ 7) : runL (iota n) (extL n) = iota n ∧ ∀ i j, i < j → j < (extL n).length → rkAt n (extL n) i ≠ rkAt n (extL n) j := by
  have hs : seenN (List.range n) 0 (extE n) = some (List.range n) := by
    rcases (show n = 2 ∨ n = 3 ∨ n = 4 ∨ n = 5 ∨ n = 6 ∨ n = 7 by omega) with rfl | rfl | rfl | rfl | rfl | rfl
    · exact seen2
    · exact seen3
    · exact seen4
    · exact seen5
    · exact seen6
    · exact seen7
  obtain ⟨h1, hn, -⟩ := seen_sound _ _ _ _ hs
  have hlt := extE_lt h2
  have hrun : ∀ ks : List Nat, (∀ k ∈ ks, k ∈ extE n) → runL (iota n) (ks.map pw) = (ks.foldl swapN (List.range n)).map Int.ofNat := fun ks hk =>
    runL_pw ks (List.range n) (fun k h => by rw [List.length_range]; exact hlt k (hk k h))
  have hlen : (extL n).length = (extE n).length := by rw [extL_E, List.length_map]
  have hrk : ∀ j, j < (extE n).length → (ranksN (List.range n) (extE n))[j]? = some (rkAt n (extL n) j) := fun j hj => by
    rw [ranksN_get _ _ _ hj]
    unfold rkAt
    rw [extL_E, ← List.map_take, hrun _ (fun k hk => List.mem_of_mem_take hk), rankL_rk, rkN_rk]
  refine ⟨by rw [extL_E, hrun _ (fun _ h => h), ← h1]; rfl, fun i j hij hj e => ?_⟩
  rw [hlen] at hj
  have e1 := hrk i (by omega)
  have e2 := hrk j hj
  rw [e, ← e2] at e1
  have hl : j < (ranksN (List.range n) (extE n)).length := by
    rcases Nat.lt_or_ge j (ranksN (List.range n) (extE n)).length with h | h
    · exact h
    · rw [List.getElem?_eq_none h] at e2; cases e2
  have := (List.getElem?_inj (i := i) (by omega) hn).1 e1
  omega

end Go.Proofs.Ytdmogoeafjpphaa

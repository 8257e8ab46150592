/- Colorings as an action on numbers; the numbers of colorings and the determinant. Plain algebra. -/
import Derived.Test.YtckopilciekfbaaQColorDet0
import Derived.Test.YtckopilciekfbaaQColorDet1
import Derived.Test.YtckopilciekfbaaQColorDet2
import Derived.Test.YtckopilciekfbaaQColorDet3
import Derived.Test.YtckopilciekfbaaQColorDet4
import Derived.Test.YtckopilciekfbaaQColorDet5
import Derived.Test.YtckopilciekfbaaQColorDet6
import Derived.Test.YtckopilciekfbaaQColorDet7
import Derived.Test.YtckopilciekfbaaQColorDet8
import Derived.Test.YtckopilciekfbaaQColorDet9
import Derived.Test.YtckopilciekfbaaQColorDet10
import Derived.Test.YtckopilciekfbaaQColorDet11
import Derived.Test.YtckopilciekfbaaQColorDet12
import Derived.Test.YtckopilciekfbaaQColorDet13
import Derived.Test.YtckopilciekfbaaQColorDet14
import Derived.Test.YtckopilciekfbaaQColorDet15
import Derived.Test.YtckopilciekfbaaQColorDet16
import Derived.Test.YtckopilciekfbaaQColorDet17
import Derived.Test.YtckopilciekfbaaQColorDet18
import Derived.Test.YtckopilciekfbaaQColorDet19
import Derived.Test.YtckopilciekfbaaQColorDet20
import Derived.Test.YtckopilciekfbaaQColorDet21
import Derived.Test.YtckopilciekfbaaQColorDet22
import Derived.Test.YtckopilciekfbaaQColorDet23
import Derived.Test.YtckopilciekfbaaQColorDet24
import Derived.Test.YtckopilciekfbaaQColorDet25
import Derived.Test.YtckopilciekfbaaQColorDet26
import Derived.Test.YtckopilciekfbaaQColorDet27
import Derived.Test.YtckopilciekfbaaQColorDet28
import Derived.Test.YtckopilciekfbaaQColorDet29
import Derived.Test.YtckopilciekfbaaQColorDet30
import Derived.Test.YtckopilciekfbaaQColorDet31
import Derived.Test.YtckopilciekfbaaQColorDet32
import Derived.Test.YtckopilciekfbaaQColorDet33
import Derived.Test.YtckopilciekfbaaQColorDet34
import Derived.Test.YtckopilciekfbaaQColorDet35
import Derived.Test.YtckopilciekfbaaQColorDet37
import Derived.Test.YtckopilciekfbaaQColorDet38
import Derived.Test.YtckopilciekfbaaQColorDet40
import Derived.Test.YtckopilciekfbaaQColorDet42
import Derived.Test.YtckopilciekfbaaQColorDet43
import Derived.Shelf.Strings.Builder1
import Derived.RangeFuncNested
import Derived.RangeFuncCalls
import Derived.OrdersIn
import Derived.OrdersHeld
import Derived.Deep.RegionHeld
import Derived.RangeFuncBound
import Derived.RangeFuncLeaves
import Derived.RangeFuncBox
import Derived.Shelf.Abstract
import Derived.Shelf.RegionOpen
import Derived.OwnWalkIn
import Derived.TacticsInMore
import Derived.LoopNIn
import Derived.LoopIn
import Derived.Maps.AppendAt
namespace Go.Proofs.Ytckopilciekfbaa
open Go.RowKit Go.Sl
open Go.Det (sumN dt mul upd Alt uni sgN skp)

section
variable {a : List Int} {L : List Nat} {n : Nat}
theorem mem_getD {cs : List Nat} {i : Nat} (hi : i < cs.length) : cs.getD i 0 ∈ cs := by
  rw [List.getD_eq_getElem?_getD, List.getElem?_eq_getElem hi]; exact List.getElem_mem hi
theorem ent_matI {F : Nat → Nat → Int} {i k : Nat} (hi : i < n) (hk : k < n) : ent2 (matI n F) i k = F i k := by unfold ent2; rw [nthr_matI hi, nth_row hk]
end

end Go.Proofs.Ytckopilciekfbaa

namespace Go.Proofs.Ytckopilciekfbaa
open Go.RowKit Go.Sl
open Go.Det (sumN dt mul upd Alt uni sgN skp)

/-- A letter's step without a modulus. -/
def czs (x : Int) (f : Nat → Int) (j : Nat) : Int :=
  if 0 < x then (if j = x.natAbs - 1 then 2 * f (x.natAbs - 1) - f x.natAbs else if j = x.natAbs then f (x.natAbs - 1) else f j)
  else (if j = x.natAbs - 1 then f x.natAbs else if j = x.natAbs then 2 * f x.natAbs - f (x.natAbs - 1) else f j)
def czw (X : List Int) (f : Nat → Int) : Nat → Int := X.foldl (fun g x => czs x g) f
theorem czs_congr {x : Int} {n : Nat} (hn : x.natAbs < n) {f g : Nat → Int} (h : ∀ j, j < n → f j = g j) : ∀ j, j < n → czs x f j = czs x g j := by
  intro j hj
  unfold czs
  rw [h _ hn, h _ (show x.natAbs - 1 < n by omega), h j hj]
theorem czw_congr {n : Nat} : ∀ (X : List Int), NWord n X → ∀ f g : Nat → Int, (∀ j, j < n → f j = g j) → ∀ j, j < n → czw X f j = czw X g j := by
  intro X
  induction X with
  | nil => intro _ f g h; exact h
  | cons x X ih => intro hw f g h; exact ih (fun y hy => hw y (by simp [hy])) _ _ (czs_congr (hw x (by simp)).2 h)
theorem czs_lin (x : Int) (f g : Nat → Int) (a b : Int) : czs x (fun k => a * f k + b * g k) = fun k => a * czs x f k + b * czs x g k := by
  funext k
  unfold czs
  split <;> split <;> (try split) <;> grind
theorem czw_lin (X : List Int) : ∀ (f g : Nat → Int) (a b : Int), czw X (fun k => a * f k + b * g k) = fun k => a * czw X f k + b * czw X g k := by
  induction X with
  | nil => intro f g a b; rfl
  | cons x X ih =>
    intro f g a b
    show czw X (czs x _) = _
    rw [czs_lin, ih]; rfl
theorem czw_const (X : List Int) (e : Int) : czw X (fun _ => e) = fun _ => e := by
  induction X with
  | nil => rfl
  | cons x X ih =>
    have : czs x (fun _ => e) = fun _ => e := by funext k; unfold czs; dsimp only; split <;> split <;> (try split) <;> omega
    show czw X (czs x _) = _
    rw [this, ih]
theorem czw_sum (X : List Int) (F : Nat → Nat → Int) (i : Nat) : ∀ K, sumN (fun k => czw X (F k) i) K = czw X (fun j => sumN (fun k => F k j) K) i := by
  intro K
  induction K with
  | zero =>
    show 0 = czw X (fun _ => 0) i
    rw [czw_const]
  | succ K ih =>
    rw [sumN, ih]
    have := czw_lin X (fun j => sumN (fun k => F k j) K) (F K) 1 1
    have e : (fun j => sumN (fun k => F k j) (K + 1)) = fun j => 1 * sumN (fun k => F k j) K + 1 * F K j := by funext j; rw [sumN]; omega
    rw [e, this]
    show czw X (fun j => sumN (fun k => F k j) K) i + czw X (F K) i = 1 * czw X (fun j => sumN (fun k => F k j) K) i + 1 * czw X (F K) i
    omega
/-- The program's colors are these modulo m. -/
theorem prop_czw {m : Int} {n : Nat} : ∀ (X c : List Int) (g : Nat → Int), NWord n X → c.length = n → (∀ i, i < n → m ∣ nth c i - g i) → ∀ i, i < n → m ∣ nth (prop m c X) i - czw X g i := by
  intro X
  induction X with
  | nil => intro c g _ _ h; exact h
  | cons x X ih =>
    intro c g hw hc h
    have hx := hw x (by simp)
    refine ih (cstep m c x) (czs x g) (fun y hy => hw y (by simp [hy])) (by rw [cstep_length, hc]) fun i hi => ?_
    have hp := h (x.natAbs - 1) (by omega)
    have hq := h x.natAbs hx.2
    have hii := h i hi
    obtain ⟨p, hpp⟩ := hp
    obtain ⟨q, hqq⟩ := hq
    have hmod : ∀ z : Int, m ∣ (z + m) % m - z := fun z => by
      have := Int.emod_add_mul_ediv (z + m) m
      exact ⟨1 - (z + m) / m, by rw [Int.mul_sub]; omega⟩
    unfold cstep czs
    simp only
    by_cases hpos : 0 < x
    · rw [if_pos hpos, if_pos hpos, nth_set _ _ _ _ (by simp; omega), nth_set _ _ _ _ (by omega)]
      by_cases e1 : i = x.natAbs
      · rw [if_pos e1, if_neg (by omega), if_pos e1]; exact ⟨p, hpp⟩
      · rw [if_neg e1]
        by_cases e2 : i = x.natAbs - 1
        · rw [if_pos e2, if_pos e2]
          obtain ⟨z, hz⟩ := hmod (2 * nth c (x.natAbs - 1) - nth c x.natAbs)
          exact ⟨z + 2 * p - q, by grind⟩
        · rw [if_neg e2, if_neg e2, if_neg e1]; exact hii
    · rw [if_neg hpos, if_neg hpos, nth_set _ _ _ _ (by simp; omega), nth_set _ _ _ _ (by omega)]
      by_cases e1 : i = x.natAbs
      · rw [if_pos e1, if_neg (by omega), if_pos e1]
        obtain ⟨z, hz⟩ := hmod (2 * nth c x.natAbs - nth c (x.natAbs - 1))
        exact ⟨z + 2 * q - p, by grind⟩
      · rw [if_neg e1]
        by_cases e2 : i = x.natAbs - 1
        · rw [if_pos e2, if_pos e2]; exact ⟨q, hqq⟩
        · rw [if_neg e2, if_neg e2, if_neg e1]; exact hii
/-- The matrix of the action less the identity. -/
def Zm (X : List Int) (i k : Nat) : Int := czw X (uni k) i - uni i k
theorem uni_comm' (i k : Nat) : (uni i k : Int) = uni k i := by unfold uni; by_cases h : i = k <;> simp [h, eq_comm]
theorem nth_unitC {n k i : Nat} {e : Int} (hk : k < n) (hi : i < n) : nth (unitC n e k) i = e * uni k i := by
  unfold unitC
  rw [nth_set _ _ _ _ (by simpa using hk)]
  unfold uni
  by_cases h : i = k
  · rw [if_pos h, if_pos h.symm]; omega
  · rw [if_neg h, if_neg (Ne.symm h), nth_lt (by simpa using hi)]; simp
theorem colF_Zm {M n : Nat} {e : Int} {X : List Int} (hw : NWord n X) {i k : Nat} (hi : i < n) (hk : k < n) : (M : Int) ∣ colF M n e X i k - e * Zm X i k := by
  have h := prop_czw (m := (M : Int)) X (unitC n e k) (fun j => e * uni k j + 0 * 0) hw (unitC_length n e k) (fun j hj => by rw [nth_unitC hk hj]; exact ⟨0, by omega⟩) i hi
  rw [czw_lin X (uni k) (fun _ => 0) e 0] at h
  obtain ⟨z, hz⟩ := h
  refine ⟨z, ?_⟩
  unfold colF Zm
  rw [nth_unitC hk hi, uni_comm' i k]
  grind
theorem Zm_rows {n : Nat} {X : List Int} (hw : NWord n X) {i : Nat} (hi : i < n) : sumN (fun k => Zm X i k) n = 0 := by
  unfold Zm
  have h1 := Go.Det.sumN_lin (1 : Int) (-1) (fun k => czw X (uni k) i) (fun k => uni i k) n
  have e : ∀ k, k < n → czw X (uni k) i - uni i k = 1 * czw X (uni k) i + (-1) * uni i k := fun k _ => by omega
  have one : ∀ j, j < n → sumN (fun k => (uni k j : Int)) n = 1 := fun j hj => by
    have := sum_uniR n (fun _ => (1 : Int)) hj
    simpa using this
  rw [Go.Det.sumN_congr n e, h1, czw_sum, czw_congr X hw _ (fun _ => 1) one i hi, czw_const, Go.Det.sumN_congr n (fun k _ => uni_comm' i k), one i hi]; rfl

/-! The program's numbers of solutions. -/
section
variable {n : Nat} {X : List Int}
def colM (n M : Nat) (X : List Int) : List (List Int) := matI n (colF M n ((1 : Int) % (M : Int)) X)
theorem colM_mod (hw : NWord n X) {M p : Nat} (hM : 1 < M) (hpM : (p : Int) ∣ (M : Int)) {i k : Nat} (hi : i < n) (hk : k < n) : (p : Int) ∣ ent2 (colM n M X) i k - Zm X i k := by
  unfold colM
  rw [ent_matI hi hk, Int.emod_eq_of_lt (by omega) (by omega)]
  have h := colF_Zm (M := M) (e := 1) hw hi hk
  rw [Int.one_mul] at h
  exact Int.dvd_trans hpM h
theorem p2 : ∀ d, d ∣ 2 → d = 1 ∨ d = 2 := fun d hd => by have := Nat.le_of_dvd (by decide) hd; have := Nat.pos_of_dvd_of_pos hd (by decide); omega
theorem pD : ∀ p : Fin 14, (p.val = 2 ∨ p.val = 3 ∨ p.val = 5 ∨ p.val = 7 ∨ p.val = 11 ∨ p.val = 13) → ∀ d : Fin 14, d.val ∣ p.val → d.val = 1 ∨ d.val = p.val := by decide +kernel
theorem pdiv {p : Nat} (hp : p = 2 ∨ p = 3 ∨ p = 5 ∨ p = 7 ∨ p = 11 ∨ p = 13) : ∀ d, d ∣ p → d = 1 ∨ d = p := fun d hd => by
  have h1 := Nat.le_of_dvd (by omega) hd
  exact pD ⟨p, by omega⟩ hp ⟨d, by omega⟩ hd
def sgr (j : Nat) : Rat := (-1) ^ j
theorem sgr_sq (j : Nat) : sgr j * sgr j = 1 := by unfold sgr; rcases alex_sign j with h | h <;> rw [h] <;> decide +kernel
theorem sgr_succ (j : Nat) : sgr (j + 1) = -sgr j := by unfold sgr; rw [Rat.pow_succ]; grind
theorem czs_bact (x : Int) (hx : x ≠ 0) (f : Nat → Int) (i : Nat) : ((czs x f i : Int) : Rat) = sgr i * bact (-1) x (fun j => sgr j * (f j : Int)) i := by
  obtain ⟨p, hp⟩ : ∃ p, x.natAbs = p + 1 := ⟨x.natAbs - 1, by omega⟩
  have hi : ((-1 : Rat))⁻¹ = -1 := by decide +kernel
  have s1 := sgr_sq p
  have s2 := sgr_succ p
  have si := sgr_sq i
  unfold czs bact bactP bactN
  rw [hp, Nat.add_sub_cancel, hi]
  by_cases hpos : 0 < x
  · rw [if_pos hpos, if_neg (show ¬ x < 0 by omega)]
    by_cases e1 : i = p
    · subst e1; simp only [if_true]; rw [Rat.intCast_sub, Rat.intCast_mul]; simp only [s2]; grind
    · simp only [if_neg e1]
      by_cases e2 : i = p + 1
      · subst e2; simp only [if_true]; rw [s2]; grind
      · simp only [if_neg e2]; grind
  · rw [if_neg hpos, if_pos (show x < 0 by omega)]
    by_cases e1 : i = p
    · subst e1; simp only [if_true]; simp only [s2]; grind
    · simp only [if_neg e1]
      by_cases e2 : i = p + 1
      · subst e2; simp only [if_true]; rw [Rat.intCast_sub, Rat.intCast_mul]; simp only [s2]; grind
      · simp only [if_neg e2]; grind
theorem czw_bacts : ∀ (X : List Int), (∀ x ∈ X, x ≠ 0) → ∀ (f : Nat → Int) (i : Nat), ((czw X f i : Int) : Rat) = sgr i * bacts (-1) X (fun j => sgr j * (f j : Int)) i := by
  intro X
  induction X with
  | nil =>
    intro _ f i
    show ((f i : Int) : Rat) = sgr i * (sgr i * (f i : Int))
    have := sgr_sq i
    grind
  | cons x X ih =>
    intro h f i
    show ((czw X (czs x f) i : Int) : Rat) = sgr i * bacts (-1) X (bact (-1) x (fun j => sgr j * (f j : Int))) i
    rw [ih (fun y hy => h y (by simp [hy]))]
    congr 2
    funext j
    rw [czs_bact x (h x (by simp))]
    have := sgr_sq j
    grind
theorem Zm_BW {X : List Int} (h : ∀ x ∈ X, x ≠ 0) (i k : Nat) : ((Zm X i k : Int) : Rat) = sgr i * (sgr k * BW (-1) X k i) - uni i k := by
  unfold Zm
  rw [Rat.intCast_sub, czw_bacts X h]
  have e1 : ((uni i k : Int) : Rat) = uni i k := by unfold uni; split <;> rfl
  have e2 : (fun j => sgr j * ((uni k j : Int) : Rat)) = fun j => sgr k * unitV k j + 0 * 0 := by
    funext j
    unfold uni unitV
    by_cases q : k = j
    · subst q; simp; grind
    · rw [if_neg q, if_neg (Ne.symm q)]; simp; grind
  have e3 : bacts (-1) X (fun j => sgr k * unitV k j + 0 * 0) = fun j => sgr k * bacts (-1) X (unitV k) j := by
    have := bacts_lin (t := -1) X (fun _ => 0) (unitV k) (sgr k)
    have hz := bacts_zero (t := -1) X
    have e4 : (fun j => sgr k * unitV k j + 0 * 0) = fun j => (fun _ => (0 : Rat)) j + sgr k * unitV k j := by funext j; grind
    rw [e4, this]
    funext j
    rw [hz]; grind
  rw [e1, e2, e3]; rfl
/-- The corner of the coloring matrix: the Alexander polynomial's value at -1, up to the sign. -/
theorem Zm_corner {m : Nat} {X : List Int} (hw : NWord (m + 1) X) : ((dt m (Zm X) : Int) : Rat) = cW (-1) m X ∨ ((dt m (Zm X) : Int) : Rat) = -cW (-1) m X := by
  have h0 : ∀ x ∈ X, x ≠ 0 := fun x hx => (hw x hx).1
  rw [← dt_cast]
  obtain ⟨D, hD⟩ : ∃ D : Rat, dt m (fun i j => sgr i * uni i j) = D := ⟨_, rfl⟩
  have hDD : D * D = 1 := by
    have h := Go.Det.dt_mul m (fun i j => sgr i * uni i j) (fun i j => sgr i * uni i j)
    rw [hD, Go.Det.dt_congr (B := uni) (fun i j hi hj => ?_), Go.Det.dt_uni] at h
    · exact h.symm
    · unfold mul
      have e : ∀ k, k < m → sgr i * uni i k * (sgr k * uni k j) = (sgr i * (sgr j * uni i j)) * 0 + uni i k * (sgr i * sgr k * uni k j) := fun k _ => by grind
      rw [Go.Det.sumN_congr m (g := fun k => (sgr i * sgr k * uni k j) * uni k i) (fun k _ => by unfold uni; grind), sum_uniR m (fun k => sgr i * sgr k * uni k j) hi]
      have := sgr_sq i
      grind
  obtain ⟨A, hA⟩ : ∃ A : Nat → Nat → Rat, A = fun i j => BW (-1) X j i - uni j i := ⟨_, rfl⟩
  have e1 : dt m (fun i k => ((Zm X i k : Int) : Rat)) = D * (dt m A * D) := by
    rw [← hD, ← Go.Det.dt_mul, ← Go.Det.dt_mul]
    refine Go.Det.dt_congr fun i j hi hj => ?_
    rw [Zm_BW h0]
    unfold mul
    have s1 : ∀ k, sumN (fun l => A k l * (sgr l * uni l j)) m = A k j * sgr j := fun k => by
      rw [← sum_uniR m (fun l => A k l * sgr l) hj]
      exact Go.Det.sumN_congr m fun l _ => by grind
    rw [Go.Det.sumN_congr m (g := fun k => (sgr i * (A k j * sgr j)) * uni k i) (fun k _ => by rw [s1]; unfold uni; grind), sum_uniR m (fun k => sgr i * (A k j * sgr j)) hi, hA]
    have := sgr_sq i
    unfold uni
    by_cases q : i = j
    · subst q; simp only [if_true]; grind
    · simp only [if_neg q, if_neg (Ne.symm q)]; grind
  obtain ⟨e, he, hneg⟩ := dt_neg m
  have e2 : dt m A = e * cW (-1) m X := by
    unfold cW
    rw [← hneg, ← Go.Det.dt_turn, hA]
    exact Go.Det.dt_congr fun i j _ _ => by grind
  have e3 : D * (dt m A * D) = dt m A := by
    have : D * (dt m A * D) = (D * D) * dt m A := by grind
    rw [this, hDD]; grind
  rw [e1, e3, e2]
  rcases he with rfl | rfl
  · left; grind
  · right; grind
theorem Zm_cols {n : Nat} {X : List Int} (hw : NWord n X) {k : Nat} (hk : k < n) : sumN (fun i => Zm X i k * (sgN i : Int)) n = 0 := by
  have h0 : ∀ x ∈ X, x ≠ 0 := fun x hx => (hw x hx).1
  have hsg : ∀ i, ((sgN i : Int) : Rat) = sgr i := fun i => by
    induction i with
    | zero => unfold sgr; rw [Go.Det.sgN_zero, Rat.pow_zero]; rfl
    | succ i ih => rw [Go.Det.sgN_succ, sgr_succ, Rat.intCast_neg, ih]
  have h1 : ((sumN (fun i => Zm X i k * (sgN i : Int)) n : Int) : Rat) = 0 := by
    rw [← sumN_cast]
    have e : ∀ i, i < n → ((Zm X i k * (sgN i : Int) : Int) : Rat) = sgr k * BW (-1) X k i + (-1) * (sgr i * uni i k) := fun i _ => by
      rw [Rat.intCast_mul, Zm_BW h0, hsg]
      have := sgr_sq i
      grind
    have hr := BW_rows (t := -1) (by decide) hw hk
    rw [Go.Det.sumN_congr n e, Go.Det.sumN_lin, hr, sum_uniR n (fun i => sgr i) hk]; grind
  exact Rat.intCast_inj.1 h1
theorem bits_minus : ∀ n : Fin 6, ∀ r : Fin 64, r.val < 2 ^ (n.val + 1) → (bits6 r.val).length = n.val → ∃ l : Fin 6, l.val < n.val + 1 ∧ bits6 r.val = (List.range (n.val + 1)).eraseIdx l.val := by decide +kernel
theorem full_range : ∀ n : Fin 7, full n.val < 2 ^ n.val ∧ bits6 (full n.val) = List.range n.val := by decide +kernel
/-- FOX: a prime divides all minors but the whole one just if it divides the determinant. -/
theorem det_law {m : Nat} (hm : m + 1 ≤ 6) (hw : NWord (m + 1) X) {M : Nat} (hM : 1 < M) : M ∣ gD (colM (m + 1) M X) (m + 1) m ↔ (M : Int) ∣ dt m (Zm X) := by
  have hmod : ∀ i k, i < m + 1 → k < m + 1 → (M : Int) ∣ ent2 (colM (m + 1) M X) i k - Zm X i k := fun i k hi hk => colM_mod hw hM (Int.dvd_refl _) hi hk
  have toZ : ∀ rs cs : List Nat, rs.length = m → cs.length = m → (∀ x ∈ rs, x < m + 1) → (∀ x ∈ cs, x < m + 1) → (M : Int) ∣ minD (ent2 (colM (m + 1) M X)) rs cs - dt m (fun i j => Zm X (rs.getD i 0) (cs.getD j 0)) := fun rs cs h1 h2 h3 h4 => by
    unfold minD
    rw [h1]
    exact dt_mod m fun i j hi hj => hmod _ _ (h3 _ (mem_getD (by omega))) (h4 _ (mem_getD (by omega)))
  constructor
  · intro h
    obtain ⟨f1, f2⟩ := full_range ⟨m, by omega⟩
    simp only at f1 f2
    have f3 : full m < 2 ^ (m + 1) := by rw [Nat.pow_succ]; omega
    have h1 := (gD_dvd hm m M).1 h (full m) (full m) f3 f3 (by rw [f2]; simp) (by rw [f2]; simp)
    rw [f2] at h1
    have h2 := toZ (List.range m) (List.range m) (by simp) (by simp) (fun x hx => by have := List.mem_range.1 hx; omega) (fun x hx => by have := List.mem_range.1 hx; omega)
    have h3 := Int.dvd_sub h1 h2
    have e : ∀ a b : Int, a - (a - b) = b := fun a b => by omega
    rw [e] at h3
    rwa [Go.Det.dt_congr (B := Zm X) (fun i j hi hj => by rw [range_getD hi, range_getD hj])] at h3
  · intro h
    refine (gD_dvd hm m M).2 fun r c hr hc h1 h2 => ?_
    have h64 := pow_le64 ⟨m + 1, by omega⟩
    simp only at h64
    obtain ⟨l, hl, e1⟩ := bits_minus ⟨m, by omega⟩ ⟨r, by omega⟩ hr h1
    obtain ⟨j, hj, e2⟩ := bits_minus ⟨m, by omega⟩ ⟨c, by omega⟩ hc h2
    simp only at e1 e2 hl hj
    have hb := toZ (bits6 r) (bits6 c) h1 h2 (fun x hx => by have := bits_all ⟨m + 1, by omega⟩ ⟨r, by omega⟩ hr; exact this x hx) (fun x hx => by have := bits_all ⟨m + 1, by omega⟩ ⟨c, by omega⟩ hc; exact this x hx)
    -- cofactors
    have k1 := cof_kernel (n := m + 1) (Zm X) (fun _ => 1) (r := 0) (by omega) (by decide) (fun i hi => by simp only [Int.mul_one]; exact Zm_rows hw hi) (l := l.val) (j := j.val) (j' := m) hl hj (by omega)
    have ks : ∀ i, (sgN i : Int) * sgN i = 1 := fun i => by unfold Go.Det.sgN; split <;> rfl
    have k2 := cof_kernel (n := m + 1) (fun i j => Zm X j i) (fun i => sgN i) (r := 0) (by omega) (ks 0) (fun i hi => Zm_cols hw hi) (l := m) (j := l.val) (j' := m) (by omega) hl (by omega)
    rw [cof_turn (m + 1) (Zm X) (by omega) hl, cof_turn (m + 1) (Zm X) (by omega) (by omega)] at k2
    have k3 := cof_minor m m (Zm X) m (by omega) (by omega)
    have k4 := cof_minor m l.val (Zm X) j.val hl hj
    have e3 : dt m (fun a b => Zm X (skp m a) (skp m b)) = dt m (Zm X) := Go.Det.dt_congr fun a b ha hb => by
      have q1 : skp m a = a := by unfold skp; rw [if_pos ha]
      have q2 : skp m b = b := by unfold skp; rw [if_pos hb]
      rw [q1, q2]
    rw [e3] at k3
    have e4 : dt m (fun i k => Zm X ((bits6 r).getD i 0) ((bits6 c).getD k 0)) = dt m (fun a b => Zm X (skp l.val a) (skp j.val b)) := Go.Det.dt_congr fun a b ha hb => by
      rw [e1, e2, getD_erase, getD_erase, range_getD (by unfold skp; split <;> omega), range_getD (by unfold skp; split <;> omega)]
    rw [e4] at hb
    obtain ⟨E, hE⟩ : ∃ E, dt m (fun a b => Zm X (skp l.val a) (skp j.val b)) = E := ⟨_, rfl⟩
    obtain ⟨T, hT⟩ : ∃ T, dt m (Zm X) = T := ⟨_, rfl⟩
    obtain ⟨C1, hC1⟩ : ∃ C1, cof (m + 1) (Zm X) l.val j.val = C1 := ⟨_, rfl⟩
    obtain ⟨C2, hC2⟩ : ∃ C2, cof (m + 1) (Zm X) l.val m = C2 := ⟨_, rfl⟩
    obtain ⟨C3, hC3⟩ : ∃ C3, cof (m + 1) (Zm X) m m = C3 := ⟨_, rfl⟩
    rw [hE] at hb k4
    rw [hT] at k3 h
    rw [hC1] at k1 k4
    rw [hC2] at k1 k2
    rw [hC3] at k2 k3
    have hEd : (M : Int) ∣ E := by
      obtain ⟨z, hz⟩ := h
      have e5 : E = sgN l.val * sgN j.val * (sgN m * (sgN l.val * (sgN m * sgN m * T))) := by
        have q1 := ks l.val
        have q2 := ks j.val
        have q3 := ks m
        have a1 : C1 = C2 := by simpa using k1
        have a2 : C2 = sgN m * (sgN l.val * C3) := by
          have : sgN m * (sgN m * C2) = sgN m * (sgN l.val * C3) := by rw [k2]
          rw [← this]; grind
        have a3 : E = sgN l.val * sgN j.val * C1 := by rw [k4]; grind
        rw [a3, a1, a2, k3]
      rw [e5, hz]
      exact ⟨sgN l.val * sgN j.val * (sgN m * (sgN l.val * (sgN m * sgN m * z))), by grind⟩
    have := Int.dvd_add hb hEd
    have e6 : ∀ a b : Int, a - b + b = a := fun a b => by omega
    rwa [e6] at this
/-- The number of colorings is greater than the modulus just if the modulus divides the determinant. -/
theorem color_det {m : Nat} (hm : m + 1 ≤ 6) (hw : NWord (m + 1) X) {M : Nat} (hM : M = 2 ∨ M = 3 ∨ M = 5 ∨ M = 7 ∨ M = 11 ∨ M = 13) {P : LP} (hP : P = pnorm (expandL m (alexM (m + 1) X))) :
    M < solL (smithL (colM (m + 1) M X) (m + 1) (m + 1)) M (m + 1) ↔ M ∣ (atR (-1) P.low P.c).natAbs := by
  rw [solL_prime hm (primeZ_small hM) (pdiv hM), shr]
  have hlast : M ∣ gD (colM (m + 1) M X) (m + 1) (m + 1) := by
    have h := gD_rowsum (m := colM (m + 1) M X) hm (k := m) rfl (M := (M : Int)) fun i hi => by
      have h1 : sumN (fun j => ent2 (colM (m + 1) M X) i j) (m + 1) = sumN (fun j => 1 * (ent2 (colM (m + 1) M X) i j - Zm X i j) + 1 * Zm X i j) (m + 1) := Go.Det.sumN_congr _ fun j _ => by omega
      rw [h1, Go.Det.sumN_lin, Zm_rows hw hi]
      have := dvd_sum (p := (M : Int)) (m + 1) (f := fun j => ent2 (colM (m + 1) M X) i j - Zm X i j) fun j hj => colM_mod hw (by omega) (Int.dvd_refl _) hi hj
      have e2 : ∀ a : Int, 1 * a + 1 * 0 = a := fun a => by omega
      rw [e2]; exact this
    rw [← Int.natCast_mul] at h
    exact Nat.dvd_trans (Nat.dvd_mul_right _ _) (Int.natCast_dvd_natCast.1 h)
  rw [if_pos hlast]
  have h1 := shr_more (m := colM (m + 1) M X) hm (show 1 < M by omega) m
  have h2 := det_law hm hw (show 1 < M by omega)
  have h3 : M < shr M (colM (m + 1) M X) (m + 1) m * M ↔ 1 < shr M (colM (m + 1) M X) (m + 1) m := by
    constructor
    · intro h
      rcases Nat.lt_or_ge 1 (shr M (colM (m + 1) M X) (m + 1) m) with q | q
      · exact q
      · have := Nat.mul_le_mul_right M q; omega
    · intro h
      have := Nat.mul_lt_mul_of_pos_right h (show 0 < M by omega)
      omega
  rw [h3, h1, h2]
  -- the determinant's value
  have h4 : (atR (-1) P.low P.c).natAbs = (dt m (Zm X)).natAbs := by
    have u := unit_at (pnorm_is (expandL_trimmed m (alexM (m + 1) X))) (a := -1) (.inr rfl)
    rw [← hP] at u
    have v : ((atR (-1) (expandL m (alexM (m + 1) X)).low (expandL m (alexM (m + 1) X)).c : Int) : Rat) = cW (-1) m X := by
      rw [atR_neg, ← ev_alex (by decide) hw]; rfl
    obtain ⟨z, hz⟩ : ∃ z, atR (-1) (expandL m (alexM (m + 1) X)).low (expandL m (alexM (m + 1) X)).c = z := ⟨_, rfl⟩
    rw [hz] at u v
    have w : dt m (Zm X) = z ∨ dt m (Zm X) = -z := by
      rcases Zm_corner hw with q | q
      · left; rw [← v] at q; exact Rat.intCast_inj.1 q
      · right; rw [← v, ← Rat.intCast_neg] at q; exact Rat.intCast_inj.1 q
    omega
  rw [h4, ← Int.ofNat_dvd_left]
end

end Go.Proofs.Ytckopilciekfbaa


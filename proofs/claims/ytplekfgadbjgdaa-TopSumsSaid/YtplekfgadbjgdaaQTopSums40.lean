/- alexandered walked: the statements' fact about Alexander polynomials; what a word of at most 16 letters gives. -/
import Derived.Test.YtplekfgadbjgdaaQTopSums0
import Derived.Test.YtplekfgadbjgdaaQTopSums1
import Derived.Test.YtplekfgadbjgdaaQTopSums2
import Derived.Test.YtplekfgadbjgdaaQTopSums3
import Derived.Test.YtplekfgadbjgdaaQTopSums4
import Derived.Test.YtplekfgadbjgdaaQTopSums5
import Derived.Test.YtplekfgadbjgdaaQTopSums6
import Derived.Test.YtplekfgadbjgdaaQTopSums7
import Derived.Test.YtplekfgadbjgdaaQTopSums8
import Derived.Test.YtplekfgadbjgdaaQTopSums9
import Derived.Test.YtplekfgadbjgdaaQTopSums10
import Derived.Test.YtplekfgadbjgdaaQTopSums11
import Derived.Test.YtplekfgadbjgdaaQTopSums12
import Derived.Test.YtplekfgadbjgdaaQTopSums13
import Derived.Test.YtplekfgadbjgdaaQTopSums14
import Derived.Test.YtplekfgadbjgdaaQTopSums15
import Derived.Test.YtplekfgadbjgdaaQTopSums19
import Derived.Test.YtplekfgadbjgdaaQTopSums23
import Derived.Test.YtplekfgadbjgdaaQTopSums24
import Derived.Test.YtplekfgadbjgdaaQTopSums26
import Derived.Test.YtplekfgadbjgdaaQTopSums35
import Derived.Test.YtplekfgadbjgdaaQTopSums36
import Derived.Test.YtplekfgadbjgdaaQTopSums37
import Derived.Test.YtplekfgadbjgdaaQTopSums39
import Derived.Deep.RegionWith
import Derived.RangeFuncNested
import Derived.RangeFuncBound
import Derived.RangeFuncCalls
import Derived.RangeFuncLeaves
import Derived.RangeFuncBox
import Derived.Shelf.Abstract
import Derived.Shelf.RegionOpen
import Derived.OwnWalkIn
import Derived.TacticsInMore
import Derived.LoopNIn
import Derived.LoopIn
import Derived.Maps.AppendAt
import Derived.Deep.RegionLaw
namespace Go.Proofs.Ytplekfgadbjgdaa
open Go.RowKit Go.Sl

/-- A column: its entries by row. -/
abbrev Col := Nat → LP
def zcol : Col := fun _ => pzero
/-- The determinant of the matrix with these columns. -/
def mnL (k : Nat) (L : List Col) : LP := expandL k (matM k fun i j => (L.getD j zcol) i)
theorem mnL_trimmed (k : Nat) (L : List Col) : Trimmed (mnL k L) := expandL_trimmed _ _
theorem ev_mnL {t : Rat} (ht : t ≠ 0) (k : Nat) (L : List Col) : ev (mnL k L) t = Go.Det.dt k (fun j i => ev ((L.getD j zcol) i) t) := by
  unfold mnL
  rw [ev_expandL ht _ _ (sqM_matM _ _), ← Go.Det.dt_turn]
  refine Go.Det.dt_congr fun i j hi hj => ?_
  unfold evM
  rw [nthp_matM hj hi]
theorem ev_col {t : Rat} (ht : t ≠ 0) {k : Nat} {L1 L2 : List Col} {c : Col} (_hk : L1.length < k) (f : Nat → Rat) (hf : ∀ i, i < k → ev (c i) t = f i) (z : Col) :
    ev (mnL k (L1 ++ c :: L2)) t = Go.Det.dt k (Go.Det.upd (fun j i => ev (((L1 ++ z :: L2).getD j zcol) i) t) L1.length f) := by
  rw [ev_mnL ht]
  refine Go.Det.dt_congr fun j i hj hi => ?_
  unfold Go.Det.upd
  by_cases e : j = L1.length
  · subst e; rw [if_pos rfl]; simp [hf i hi]
  · rw [if_neg e]
    have : (L1 ++ c :: L2).getD j zcol = (L1 ++ z :: L2).getD j zcol := by
      rw [List.getD_eq_getElem?_getD, List.getD_eq_getElem?_getD]
      rcases Nat.lt_or_ge j L1.length with h | h
      · rw [List.getElem?_append_left h, List.getElem?_append_left h]
      · obtain ⟨m, hm⟩ : ∃ m, j - L1.length = m + 1 := ⟨j - L1.length - 1, by omega⟩
        rw [List.getElem?_append_right h, List.getElem?_append_right h, hm]; rfl
    rw [this]
/-- A column that is a sum of multiples of two others. -/
theorem mnL_lin {k : Nat} {L1 L2 : List Col} {c x y : Col} {P Q : LP} (hk : L1.length < k) (hc : ∀ t : Rat, t ≠ 0 → ∀ i, i < k → ev (c i) t = ev P t * ev (x i) t + ev Q t * ev (y i) t) :
    mnL k (L1 ++ c :: L2) = padd (pmul P (mnL k (L1 ++ x :: L2))) (pmul Q (mnL k (L1 ++ y :: L2))) 1 := by
  refine ev_ext (mnL_trimmed _ _) (padd_trimmed _ _ _) fun t ht => ?_
  rw [ev_padd _ _ _ ht, ev_pmul _ _ ht, ev_pmul _ _ ht, ev_col ht hk (fun i => ev P t * ev (x i) t + ev Q t * ev (y i) t) (hc t ht) zcol, ev_col ht hk (fun i => ev (x i) t) (fun _ _ => rfl) zcol,
    ev_col ht hk (fun i => ev (y i) t) (fun _ _ => rfl) zcol, (Go.Det.alt_dt k).lin _ _ _ _ _ _ hk]
  simp
theorem mnL_lin_n1 {k : Nat} {L1 L2 : List Col} {c x y : Col} {P Q : LP} (hk : L1.length < k) (hc : ∀ t : Rat, t ≠ 0 → ∀ i, i < k → ev (c i) t = ev P t * ev (x i) t + ev Q t * ev (y i) t) :
    n1 (mnL k (L1 ++ c :: L2)).c ≤ n1 P.c * n1 (mnL k (L1 ++ x :: L2)).c + n1 Q.c * n1 (mnL k (L1 ++ y :: L2)).c := by
  rw [mnL_lin hk hc]
  refine Nat.le_trans (n1_padd _ _ _) ?_
  have h1 := n1_pmul P (mnL k (L1 ++ x :: L2))
  have h2 := n1_pmul Q (mnL k (L1 ++ y :: L2))
  simp only [Int.natAbs_one, Nat.one_mul]
  omega

theorem ev_two {t : Rat} (ht : t ≠ 0) {k : Nat} {L1 L2 : List Col} {c d : Col} (_hk : L1.length + 1 < k) (f g : Nat → Rat) (hf : ∀ i, i < k → ev (c i) t = f i) (hg : ∀ i, i < k → ev (d i) t = g i) :
    ev (mnL k (L1 ++ c :: d :: L2)) t = Go.Det.dt k (Go.Det.upd (Go.Det.upd (fun j i => ev (((L1 ++ zcol :: zcol :: L2).getD j zcol) i) t) L1.length f) (L1.length + 1) g) := by
  rw [ev_mnL ht]
  refine Go.Det.dt_congr fun j i hj hi => ?_
  unfold Go.Det.upd
  by_cases e : j = L1.length + 1
  · subst e; rw [if_pos rfl]
    have : (L1 ++ c :: d :: L2).getD (L1.length + 1) zcol = d := by rw [List.getD_eq_getElem?_getD, List.getElem?_append_right (by omega)]; simp
    rw [this, hg i hi]
  · rw [if_neg e]
    by_cases e1 : j = L1.length
    · subst e1; rw [if_pos rfl]; simp [hf i hi]
    · rw [if_neg e1]
      have : (L1 ++ c :: d :: L2).getD j zcol = (L1 ++ zcol :: zcol :: L2).getD j zcol := by
        rw [List.getD_eq_getElem?_getD, List.getD_eq_getElem?_getD]
        rcases Nat.lt_or_ge j L1.length with h | h
        · rw [List.getElem?_append_left h, List.getElem?_append_left h]
        · obtain ⟨m, hm⟩ : ∃ m, j - L1.length = m + 2 := ⟨j - L1.length - 2, by omega⟩
          rw [List.getElem?_append_right h, List.getElem?_append_right h, hm]; rfl
      rw [this]
/-- Two neighbouring columns that are combinations of two others. -/
theorem mnL_two {k : Nat} {L1 L2 : List Col} {c d x y : Col} {U : LP} (hk : L1.length + 1 < k) (hc : ∀ t : Rat, t ≠ 0 → ∃ a b p q : Rat, (∀ i, i < k → ev (c i) t = a * ev (x i) t + b * ev (y i) t) ∧ (∀ i, i < k → ev (d i) t = p * ev (x i) t + q * ev (y i) t) ∧ ev U t = a * q - b * p) :
    mnL k (L1 ++ c :: d :: L2) = pmul U (mnL k (L1 ++ x :: y :: L2)) := by
  refine ev_ext (mnL_trimmed _ _) (pmul_trimmed _ _) fun t ht => ?_
  obtain ⟨a, b, p, q, h1, h2, h3⟩ := hc t ht
  rw [ev_pmul _ _ ht, h3, ev_two ht hk _ _ h1 h2, ev_two ht hk (fun i => ev (x i) t) (fun i => ev (y i) t) (fun _ _ => rfl) (fun _ _ => rfl)]
  have alt := Go.Det.alt_dt (R := Rat) k
  obtain ⟨A, hA⟩ : ∃ A : Nat → Nat → Rat, A = fun j i => ev (((L1 ++ zcol :: zcol :: L2).getD j zcol) i) t := ⟨_, rfl⟩
  obtain ⟨X, hX⟩ : ∃ X : Nat → Rat, X = fun i => ev (x i) t := ⟨_, rfl⟩
  obtain ⟨Y, hY⟩ : ∃ Y : Nat → Rat, Y = fun i => ev (y i) t := ⟨_, rfl⟩
  obtain ⟨r, hr⟩ : ∃ r, L1.length = r := ⟨_, rfl⟩
  rw [hr] at hk ⊢
  have e1 : (fun i => a * ev (x i) t + b * ev (y i) t) = fun i => a * X i + b * Y i := by rw [hX, hY]
  have e2 : (fun i => p * ev (x i) t + q * ev (y i) t) = fun i => p * X i + q * Y i := by rw [hX, hY]
  rw [e1, e2, ← hA, ← hX, ← hY]
  have hne : r ≠ r + 1 := by omega
  rw [alt.lin _ (r + 1) p q X Y (by omega), Go.Det.upd_comm _ _ _ hne, alt.lin _ r a b X Y (by omega), Go.Det.upd_comm _ _ _ hne, alt.lin _ r a b X Y (by omega)]
  have z1 : Go.Det.dt k (Go.Det.upd (Go.Det.upd A (r + 1) X) r X) = 0 := alt.zero (p := r) (q := r + 1) (by omega) (by omega) hne _ fun j _ => by simp [Go.Det.upd]
  have z2 : Go.Det.dt k (Go.Det.upd (Go.Det.upd A (r + 1) Y) r Y) = 0 := alt.zero (p := r) (q := r + 1) (by omega) (by omega) hne _ fun j _ => by simp [Go.Det.upd]
  have z3 := alt.swap (p := r + 1) (q := r) (by omega) (by omega) (Ne.symm hne) A X Y
  rw [Go.Det.upd_comm A X Y hne, z1, z2, z3]
  grind

end Go.Proofs.Ytplekfgadbjgdaa

namespace Go.Proofs.Ytplekfgadbjgdaa
open Go.RowKit Go.Sl

def selT (f : Nat → Col) : List Bool → Nat → List Col
  | [], _ => []
  | true :: T, b => f b :: selT f T (b + 1)
  | false :: T, b => selT f T (b + 1)
theorem selT_app (f : Nat → Col) (A B : List Bool) : ∀ b, selT f (A ++ B) b = selT f A b ++ selT f B (b + A.length) := by
  induction A with
  | nil => intro b; simp [selT]
  | cons a A ih =>
    intro b
    cases a
    · simp only [List.cons_append, selT, ih, List.length_cons, show b + 1 + A.length = b + (A.length + 1) by omega]
    · simp only [List.cons_append, selT, ih, List.length_cons, show b + 1 + A.length = b + (A.length + 1) by omega]
theorem selT_congr {f g : Nat → Col} (T : List Bool) : ∀ b, (∀ j, b ≤ j → j < b + T.length → f j = g j) → selT f T b = selT g T b := by
  induction T with
  | nil => intro b _; rfl
  | cons a T ih =>
    intro b h
    have h1 := ih (b + 1) fun j h1 h2 => h j (by omega) (by simp; omega)
    cases a
    · exact h1
    · simp only [selT, h1, h b (Nat.le_refl _) (by simp)]
theorem selT_length (f : Nat → Col) (T : List Bool) : ∀ b, (selT f T b).length = T.count true := by
  induction T with
  | nil => intro b; rfl
  | cons a T ih =>
    intro b
    cases a
    · simp [selT, ih]
    · simp [selT, ih]
/-- Column j of the Burau matrix, from row r on. -/
def colW (n : Nat) (w : List Int) (r j : Nat) : Col := fun i => nthp (rowM n w (r + i)) j
theorem rowM_snoc (n : Nat) (w : List Int) (x : Int) (i : Nat) : rowM n (w ++ [x]) i = brow x (rowM n w i) := by unfold rowM; rw [List.foldl_append]; rfl
theorem colW_other {n : Nat} {w : List Int} {x : Int} {r j : Nat} (_hx : x.natAbs < n) (hj : j < n) (h1 : j ≠ x.natAbs - 1) (h2 : j ≠ x.natAbs) : colW n (w ++ [x]) r j = colW n w r j := by
  funext i
  unfold colW
  rw [rowM_snoc]
  unfold brow
  have hl := rowM_length n w (r + i)
  rw [nthp_set (by simp; omega), nthp_set (by omega), if_neg h2, if_neg h1]
theorem ev_colW {t : Rat} (ht : t ≠ 0) {n : Nat} {w : List Int} {x : Int} {r i j : Nat} (hw : NWord n (w ++ [x])) (hj : j < n) : ev (colW n (w ++ [x]) r j i) t = bact t x (fun k => bacts t w (unitV (r + i)) k) j := by
  unfold colW
  rw [ev_rowM ht hw _ _ hj, bacts_append]; rfl
theorem ev_colW0 {t : Rat} (ht : t ≠ 0) {n : Nat} {w : List Int} {r i j : Nat} (hw : NWord n w) (hj : j < n) : ev (colW n w r j i) t = bacts t w (unitV (r + i)) j := by
  unfold colW; exact ev_rowM ht hw _ _ hj

/-- The minor's size, where the number of columns fits. -/
def gW (n k : Nat) (S : List Col) (r : Nat) (w : List Int) (T : List Bool) : Nat := if S.length + T.count true = k then n1 (mnL k (S ++ selT (colW n w r) T 0)).c else 0
theorem gW_blk {n k : Nat} (S : List Col) (r : Nat) {w : List Int} {x : Int} (hw : NWord n (w ++ [x])) : Blk (x.natAbs - 1) n (gW n k S r w) (gW n k S r (w ++ [x])) := by
  intro A B hA hB
  obtain ⟨hx0, hxn⟩ := hw x (by simp)
  have hw0 : NWord n w := fun y hy => hw y (List.mem_append_left _ hy)
  obtain ⟨p, hp⟩ : ∃ p, x.natAbs - 1 = p := ⟨_, rfl⟩
  have hp1 : x.natAbs = p + 1 := by omega
  rw [hp] at hA hB
  have eA : selT (colW n (w ++ [x]) r) A 0 = selT (colW n w r) A 0 := selT_congr A 0 fun j _ h2 => colW_other hxn (by omega) (by omega) (by omega)
  have eB : selT (colW n (w ++ [x]) r) B (p + 2) = selT (colW n w r) B (p + 2) := selT_congr B (p + 2) fun j h1 h2 => colW_other hxn (by omega) (by omega) (by omega)
  obtain ⟨LA, hLA⟩ : ∃ LA, S ++ selT (colW n w r) A 0 = LA := ⟨_, rfl⟩
  obtain ⟨LB, hLB⟩ : ∃ LB, selT (colW n w r) B (p + 2) = LB := ⟨_, rfl⟩
  have hlA : LA.length = S.length + A.count true := by rw [← hLA, List.length_append, selT_length]
  have hlB : LB.length = B.count true := by rw [← hLB, selT_length]
  have sh : ∀ (a b : Bool) (v : List Int), (v = w ∨ v = w ++ [x]) → S ++ selT (colW n v r) (A ++ a :: b :: B) 0 = LA ++ (if a then [colW n v r p] else []) ++ (if b then [colW n v r (p + 1)] else []) ++ LB := by
    intro a b v hv
    have h1 : selT (colW n v r) A 0 = selT (colW n w r) A 0 := by rcases hv with rfl | rfl; rfl; exact eA
    have h2 : selT (colW n v r) B (p + 2) = selT (colW n w r) B (p + 2) := by rcases hv with rfl | rfl; rfl; exact eB
    rw [selT_app, h1, Nat.zero_add, hA, ← hLA, ← hLB, ← h2]
    cases a <;> cases b <;> simp [selT]
  have cn : ∀ a b : Bool, (A ++ a :: b :: B).count true = A.count true + (if a then 1 else 0) + (if b then 1 else 0) + B.count true := by
    intro a b; cases a <;> cases b <;> simp <;> omega
  have hp1n : p + 1 < n := by omega
  unfold gW
  rw [cn, cn, cn, cn, sh _ _ _ (.inl rfl), sh _ _ _ (.inl rfl), sh _ _ _ (.inl rfl), sh _ _ _ (.inl rfl), sh _ _ _ (.inr rfl), sh _ _ _ (.inr rfl), sh _ _ _ (.inr rfl), sh _ _ _ (.inr rfl)]
  simp only [if_true, Bool.false_eq_true, if_false, List.append_nil, Nat.add_zero, List.append_assoc, List.cons_append, List.nil_append]
  obtain ⟨c, hc⟩ : ∃ c, colW n (w ++ [x]) r p = c := ⟨_, rfl⟩
  obtain ⟨d, hd⟩ : ∃ d, colW n (w ++ [x]) r (p + 1) = d := ⟨_, rfl⟩
  obtain ⟨a, ha⟩ : ∃ a, colW n w r p = a := ⟨_, rfl⟩
  obtain ⟨b, hb⟩ : ∃ b, colW n w r (p + 1) = b := ⟨_, rfl⟩
  rw [hc, hd, ha, hb]
  have ea : ∀ t : Rat, t ≠ 0 → ∀ i, ev (a i) t = bacts t w (unitV (r + i)) p := fun t ht i => by rw [← ha]; exact ev_colW0 ht hw0 (by omega)
  have eb : ∀ t : Rat, t ≠ 0 → ∀ i, ev (b i) t = bacts t w (unitV (r + i)) (p + 1) := fun t ht i => by rw [← hb]; exact ev_colW0 ht hw0 hp1n
  have ec : ∀ t : Rat, t ≠ 0 → ∀ i, ev (c i) t = bact t x (fun k => bacts t w (unitV (r + i)) k) p := fun t ht i => by rw [← hc]; exact ev_colW ht hw (by omega)
  have ed : ∀ t : Rat, t ≠ 0 → ∀ i, ev (d i) t = bact t x (fun k => bacts t w (unitV (r + i)) k) (p + 1) := fun t ht i => by rw [← hd]; exact ev_colW ht hw hp1n
  refine ⟨Nat.le_refl _, ?_⟩
  by_cases hneg : x < 0
  · have kc : ∀ t : Rat, t ≠ 0 → ∀ i, ev (c i) t = t⁻¹ * ev (b i) t := fun t ht i => by rw [ec t ht i, eb t ht i]; unfold bact bactN; rw [if_pos hneg, hp, if_pos rfl]; grind
    have kd : ∀ t : Rat, t ≠ 0 → ∀ i, ev (d i) t = ev (a i) t + (1 - t⁻¹) * ev (b i) t := fun t ht i => by rw [ed t ht i, ea t ht i, eb t ht i]; unfold bact bactN; rw [if_pos hneg, hp, if_neg (by omega), if_pos rfl]; grind
    refine ⟨?_, .inr ⟨?_, ?_⟩⟩
    · by_cases hk2 : S.length + (A.count true + 1 + 1 + B.count true) = k
      · rw [if_pos hk2, if_pos hk2]
        rw [mnL_two (U := pterm (-1) (-1)) (x := a) (y := b) (by omega) fun t ht => ⟨0, t⁻¹, 1, 1 - t⁻¹, fun i _ => by rw [kc t ht i]; grind, fun i _ => by rw [kd t ht i]; grind, by rw [ev_pterm _ _ ht, Rat.zpow_neg, Rat.zpow_one]; simp; grind⟩]
        refine Nat.le_trans (n1_pmul _ _) ?_
        have := n1_pterm (-1) (-1)
        exact Nat.le_trans (Nat.mul_le_mul_right _ this) (by simp)
      · rw [if_neg hk2]; exact Nat.zero_le _
    · by_cases hk : S.length + (A.count true + 1 + B.count true) = k
      · rw [if_pos hk, if_pos hk, if_pos hk]
        have := mnL_lin_n1 (k := k) (L1 := LA) (L2 := LB) (c := d) (x := b) (y := a) (P := trimP (-1) [-1, 1]) (Q := pterm 1 0) (by omega) fun t ht i _ => by
          rw [kd t ht i, ev_trimP _ _ ht, ev_pterm _ _ ht, Rat.zpow_neg, Rat.zpow_one, Rat.zpow_zero]; simp [evL]; grind
        have h1 : n1 (trimP (-1) [-1, 1]).c = 2 := by decide
        have h2 : n1 (pterm 1 0).c = 1 := by decide
        rw [h1, h2] at this; omega
      · rw [if_neg hk]; omega
    · by_cases hk : S.length + (A.count true + 1 + B.count true) = k
      · rw [if_pos hk, if_pos hk]
        have := mnL_lin_n1 (k := k) (L1 := LA) (L2 := LB) (c := c) (x := b) (y := a) (P := pterm 1 (-1)) (Q := pzero) (by omega) fun t ht i _ => by
          rw [kc t ht i, ev_pzero, ev_pterm _ _ ht, Rat.zpow_neg, Rat.zpow_one]; simp; grind
        have h1 : n1 (pterm 1 (-1)).c = 1 := by decide
        have h2 : n1 pzero.c = 0 := by decide
        rw [h1, h2] at this; omega
      · rw [if_neg hk]; omega
  · have kc : ∀ t : Rat, t ≠ 0 → ∀ i, ev (c i) t = (1 - t) * ev (a i) t + ev (b i) t := fun t ht i => by rw [ec t ht i, ea t ht i, eb t ht i]; unfold bact bactP; rw [if_neg hneg, hp, if_pos rfl]; grind
    have kd : ∀ t : Rat, t ≠ 0 → ∀ i, ev (d i) t = t * ev (a i) t := fun t ht i => by rw [ed t ht i, ea t ht i]; unfold bact bactP; rw [if_neg hneg, hp, if_neg (by omega), if_pos rfl]; grind
    refine ⟨?_, .inl ⟨?_, ?_⟩⟩
    · by_cases hk2 : S.length + (A.count true + 1 + 1 + B.count true) = k
      · rw [if_pos hk2, if_pos hk2]
        rw [mnL_two (U := pterm (-1) 1) (x := a) (y := b) (by omega) fun t ht => ⟨1 - t, 1, t, 0, fun i _ => by rw [kc t ht i]; grind, fun i _ => by rw [kd t ht i]; grind, by rw [ev_pterm _ _ ht, Rat.zpow_one]; simp; grind⟩]
        refine Nat.le_trans (n1_pmul _ _) ?_
        have := n1_pterm (-1) 1
        exact Nat.le_trans (Nat.mul_le_mul_right _ this) (by simp)
      · rw [if_neg hk2]; exact Nat.zero_le _
    · by_cases hk : S.length + (A.count true + 1 + B.count true) = k
      · rw [if_pos hk, if_pos hk, if_pos hk]
        have := mnL_lin_n1 (k := k) (L1 := LA) (L2 := LB) (c := c) (x := a) (y := b) (P := trimP 0 [1, -1]) (Q := pterm 1 0) (by omega) fun t ht i _ => by
          rw [kc t ht i, ev_trimP _ _ ht, ev_pterm _ _ ht, Rat.zpow_zero]; simp [evL]; grind
        have h1 : n1 (trimP 0 [1, -1]).c = 2 := by decide
        have h2 : n1 (pterm 1 0).c = 1 := by decide
        rw [h1, h2] at this; omega
      · rw [if_neg hk]; omega
    · by_cases hk : S.length + (A.count true + 1 + B.count true) = k
      · rw [if_pos hk, if_pos hk]
        have := mnL_lin_n1 (k := k) (L1 := LA) (L2 := LB) (c := d) (x := a) (y := b) (P := pterm 1 1) (Q := pzero) (by omega) fun t ht i _ => by
          rw [kd t ht i, ev_pzero, ev_pterm _ _ ht, Rat.zpow_one]; simp; grind
        have h1 : n1 (pterm 1 1).c = 1 := by decide
        have h2 : n1 pzero.c = 0 := by decide
        rw [h1, h2] at this; omega
      · rw [if_neg hk]; omega

end Go.Proofs.Ytplekfgadbjgdaa

namespace Go.Proofs.Ytplekfgadbjgdaa
open Go.RowKit Go.Sl

def pickU (f : Nat → Nat) : Nat → Nat → Rat := fun j i => if f j = i then 1 else 0
theorem dt_pickU (k : Nat) : ∀ f : Nat → Nat, Go.Det.dt k (pickU f) = 0 ∨ Go.Det.dt k (pickU f) = 1 ∨ Go.Det.dt k (pickU f) = -1 := by
  induction k with
  | zero => intro f; exact .inr (.inl rfl)
  | succ k ih =>
    intro f
    have hd : Go.Det.dt (k + 1) (pickU f) = Go.Det.sumN (fun c => Go.Det.sgN c * pickU f 0 c * Go.Det.dt k (fun i j => pickU f (i + 1) (Go.Det.skp c j))) (k + 1) := rfl
    rw [hd]
    by_cases h : f 0 < k + 1
    · rw [Go.Det.sumN_one (k + 1) (f 0) h fun c _ hc => by
        have : pickU f 0 c = 0 := by unfold pickU; rw [if_neg (fun e => hc e.symm)]
        rw [this]; grind]
      have e0 : pickU f 0 (f 0) = 1 := by unfold pickU; rw [if_pos rfl]
      rw [e0]
      have e1 : Go.Det.dt k (fun i j => pickU f (i + 1) (Go.Det.skp (f 0) j)) = Go.Det.dt k (pickU fun j => if f (j + 1) = f 0 then k else Go.Det.usk (f 0) (f (j + 1))) := by
        refine Go.Det.dt_congr fun i j hi hj => ?_
        unfold pickU
        show (if f (i + 1) = Go.Det.skp (f 0) j then (1 : Rat) else 0) = if (if f (i + 1) = f 0 then k else Go.Det.usk (f 0) (f (i + 1))) = j then 1 else 0
        by_cases e : f (i + 1) = f 0
        · rw [if_pos e, e, if_neg (fun q => Go.Det.skp_ne (f 0) j q.symm), if_neg (by omega)]
        · rw [if_neg e]
          by_cases e2 : f (i + 1) = Go.Det.skp (f 0) j
          · rw [if_pos e2, e2, Go.Det.usk_skp, if_pos rfl]
          · rw [if_neg e2, if_neg (fun q => e2 (by rw [← q, Go.Det.skp_usk e]))]
      rw [e1]
      have hs : (Go.Det.sgN (f 0) : Rat) = 1 ∨ (Go.Det.sgN (f 0) : Rat) = -1 := by unfold Go.Det.sgN; split <;> simp
      rcases ih (fun j => if f (j + 1) = f 0 then k else Go.Det.usk (f 0) (f (j + 1))) with h1 | h1 | h1 <;> rcases hs with h2 | h2 <;> rw [h1, h2] <;> decide +kernel
    · rw [Go.Det.sumN_zero (k + 1) fun c hc => by
        have : pickU f 0 c = 0 := by unfold pickU; rw [if_neg (by omega)]
        rw [this]; grind]
      exact .inl rfl

/-- The unit column c, rows from r on. -/
def ucol (r c : Nat) : Col := fun i => oneP (decide (r + i = c))
theorem ev_ucol {t : Rat} (ht : t ≠ 0) (r c i : Nat) : ev (ucol r c i) t = if r + i = c then 1 else 0 := by
  unfold ucol oneP
  by_cases h : r + i = c
  · rw [decide_eq_true h, if_pos h]; simp only [if_true]; rw [ev_pterm _ _ ht, Rat.zpow_zero]; simp
  · rw [decide_eq_false h, if_neg h]; simp only [Bool.false_eq_true, if_false]; exact ev_pzero t
theorem colW_nil {n r c : Nat} (hc : c < n) : ∀ t : Rat, t ≠ 0 → ∀ i, ev (colW n [] r c i) t = if r + i = c then 1 else 0 := by
  intro t ht i
  rw [ev_colW0 ht (fun x hx => by cases hx) hc]
  show unitV (r + i) c = _
  unfold unitV
  by_cases h : r + i = c
  · rw [if_pos h, if_pos (by omega)]
  · rw [if_neg h, if_neg (by omega)]
/-- Unit columns (in their values): the determinant is 0, 1 or -1. -/
theorem mnL_unit {k r : Nat} {L : List Col} (J : Nat → Nat) (hJ : ∀ j, j < k → ∀ t : Rat, t ≠ 0 → ∀ i, i < k → ev ((L.getD j zcol) i) t = if r + i = J j then 1 else 0) :
    n1 (mnL k L).c ≤ 1 ∧ ((∀ t : Rat, t ≠ 0 → Go.Det.dt k (fun j i => if r + i = J j then (1 : Rat) else 0) = 0) → n1 (mnL k L).c = 0) := by
  obtain ⟨D, hD⟩ : ∃ D : Rat, Go.Det.dt k (fun j i => if r + i = J j then (1 : Rat) else 0) = D := ⟨_, rfl⟩
  have hev : ∀ t : Rat, t ≠ 0 → ev (mnL k L) t = D := fun t ht => by
    rw [ev_mnL ht, ← hD]
    exact Go.Det.dt_congr fun j i hj hi => hJ j hj t ht i hi
  have hp : D = 0 ∨ D = 1 ∨ D = -1 := by
    have e : Go.Det.dt k (fun j i => if r + i = J j then (1 : Rat) else 0) = Go.Det.dt k (pickU fun j => if r ≤ J j then J j - r else k) := by
      refine Go.Det.dt_congr fun j i hj hi => ?_
      unfold pickU
      show (if r + i = J j then (1 : Rat) else 0) = if (if r ≤ J j then J j - r else k) = i then 1 else 0
      by_cases h : r ≤ J j
      · rw [if_pos h]
        by_cases h2 : r + i = J j
        · rw [if_pos h2, if_pos (by omega)]
        · rw [if_neg h2, if_neg (by omega)]
      · rw [if_neg h, if_neg (by omega), if_neg (by omega)]
    rw [← hD, e]; exact dt_pickU _ _
  have key : ∀ c : Int, D = (c : Rat) → mnL k L = pterm c 0 := fun c hc => ev_ext (mnL_trimmed _ _) (pterm_trimmed _ _) fun t ht => by
    rw [hev t ht, ev_pterm _ _ ht, Rat.zpow_zero, hc]; simp
  rcases hp with h | h | h
  · have := key 0 (by rw [h]; rfl)
    rw [this]
    have h1 := n1_pterm 0 0
    exact ⟨by simp at h1; omega, fun _ => by simp at h1; omega⟩
  · have := key 1 (by rw [h]; rfl)
    rw [this]
    have h1 := n1_pterm 1 0
    refine ⟨by simpa using h1, fun hz => ?_⟩
    have := hz 1 (by decide)
    rw [hD, h] at this
    exact absurd this (by decide)
  · have := key (-1) (by rw [h]; rfl)
    rw [this]
    have h1 := n1_pterm (-1) 0
    refine ⟨by simpa using h1, fun hz => ?_⟩
    have := hz 1 (by decide)
    rw [hD, h] at this
    exact absurd this (by decide)

end Go.Proofs.Ytplekfgadbjgdaa

namespace Go.Proofs.Ytplekfgadbjgdaa
open Go.RowKit Go.Sl

theorem pig_perm : ∀ (X J : List Nat), X.Nodup → (∀ x ∈ X, x ∈ J) → J.length = X.length → J.Perm X := by
  intro X
  induction X with
  | nil => intro J _ _ hl; rw [List.length_eq_zero_iff.1 hl]
  | cons x X ih =>
    intro J hn hs hl
    have hx := hs x (by simp)
    have h1 := List.perm_cons_erase hx
    refine h1.trans (List.Perm.cons x (ih (J.erase x) (List.nodup_cons.1 hn).2 (fun y hy => ?_) (by rw [List.length_erase_of_mem hx, hl]; simp)))
    have hne : y ≠ x := fun e => (List.nodup_cons.1 hn).1 (e ▸ hy)
    exact (List.mem_erase_of_ne hne).2 (hs y (List.mem_cons_of_mem _ hy))

theorem mnL_swap {k : Nat} {L1 L2 : List Col} {c d : Col} (hk : L1.length + 1 < k) : n1 (mnL k (L1 ++ c :: d :: L2)).c ≤ n1 (mnL k (L1 ++ d :: c :: L2)).c := by
  rw [mnL_two (U := pterm (-1) 0) (x := d) (y := c) hk fun t ht => ⟨0, 1, 1, 0, fun i _ => by grind, fun i _ => by grind, by rw [ev_pterm _ _ ht, Rat.zpow_zero]; simp; grind⟩]
  refine Nat.le_trans (n1_pmul _ _) ?_
  have := n1_pterm (-1) 0
  exact Nat.le_trans (Nat.mul_le_mul_right _ this) (by simp)
theorem mnL_perm {k : Nat} {L L' : List Col} (h : L.Perm L') : ∀ P : List Col, P.length + L.length ≤ k → n1 (mnL k (P ++ L)).c = n1 (mnL k (P ++ L')).c := by
  induction h with
  | nil => intro P _; rfl
  | cons x _ ih =>
    intro P hP
    have := ih (P ++ [x]) (by simp at hP ⊢; omega)
    simpa using this
  | swap x y l =>
    intro P hP
    simp only [List.length_cons] at hP
    exact Nat.le_antisymm (mnL_swap (by omega)) (mnL_swap (by omega))
  | trans h1 h2 ih1 ih2 =>
    intro P hP
    rw [ih1 P hP, ih2 P (by rw [← h1.length_eq]; exact hP)]

/-- A column of I - B. -/
def dcol (n : Nat) (w : List Int) (r j : Nat) : Col := fun i => padd (ucol r j i) (colW n w r j i) (-1)
theorem mnL_dcol {n k r j : Nat} {w : List Int} {L1 L2 : List Col} (hk : L1.length < k) :
    n1 (mnL k (L1 ++ dcol n w r j :: L2)).c ≤ n1 (mnL k (L1 ++ ucol r j :: L2)).c + n1 (mnL k (L1 ++ colW n w r j :: L2)).c := by
  have := mnL_lin_n1 (k := k) (L1 := L1) (L2 := L2) (c := dcol n w r j) (x := ucol r j) (y := colW n w r j) (P := pterm 1 0) (Q := pterm (-1) 0) hk fun t ht i _ => by
    unfold dcol
    rw [ev_padd _ _ _ ht, ev_pterm _ _ ht, ev_pterm _ _ ht, Rat.zpow_zero]; simp
  have h1 : n1 (pterm 1 0).c = 1 := by decide
  have h2 : n1 (pterm (-1) 0).c = 1 := by decide
  rw [h1, h2] at this; omega

theorem selT_of_sorted (n : Nat) : ∀ (C : List Nat) (b : Nat), C.Pairwise (· < ·) → (∀ x ∈ C, b ≤ x ∧ x < b + n) → ∃ T : List Bool, T.length = n ∧ ∀ f : Nat → Col, selT f T b = C.map f := by
  induction n with
  | zero =>
    intro C b _ hC
    cases C with
    | nil => exact ⟨[], rfl, fun f => rfl⟩
    | cons x C => have := hC x (by simp); omega
  | succ n ih =>
    intro C b hs hC
    by_cases hb : ∃ C', C = b :: C'
    · obtain ⟨C', rfl⟩ := hb
      have hp := List.pairwise_cons.1 hs
      obtain ⟨T, hT, hf⟩ := ih C' (b + 1) hp.2 fun x hx => by have := hC x (by simp [hx]); have := hp.1 x hx; omega
      exact ⟨true :: T, by simp [hT], fun f => by simp [selT, hf]⟩
    · obtain ⟨T, hT, hf⟩ := ih C (b + 1) hs fun x hx => by
        have h1 := hC x hx
        by_cases e : x = b
        · exfalso
          subst e
          cases C with
          | nil => cases hx
          | cons y C =>
            have hp := List.pairwise_cons.1 hs
            rcases List.mem_cons.1 hx with e | e
            · exact hb ⟨C, by rw [← e]⟩
            · have := hp.1 x e; have := hC y (by simp); omega
        · omega
      exact ⟨false :: T, by simp [hT], fun f => by simp [selT, hf]⟩

/-- The positions of a selection. -/
def posT : List Bool → Nat → List Nat
  | [], _ => []
  | true :: T, b => b :: posT T (b + 1)
  | false :: T, b => posT T (b + 1)
theorem selT_pos (f : Nat → Col) (T : List Bool) : ∀ b, selT f T b = (posT T b).map f := by
  induction T with
  | nil => intro b; rfl
  | cons a T ih => intro b; cases a <;> simp [selT, posT, ih]
theorem mem_posT (T : List Bool) : ∀ b x, x ∈ posT T b ↔ b ≤ x ∧ T.getD (x - b) false = true := by
  induction T with
  | nil => intro b x; simp [posT]
  | cons a T ih =>
    intro b x
    have key : x ∈ posT T (b + 1) ↔ b + 1 ≤ x ∧ (a :: T).getD (x - b) false = true := by
      rw [ih]
      constructor
      · rintro ⟨h1, h2⟩
        refine ⟨h1, ?_⟩
        rw [show x - b = (x - (b + 1)) + 1 by omega]; simpa using h2
      · rintro ⟨h1, h2⟩
        refine ⟨h1, ?_⟩
        rw [show x - b = (x - (b + 1)) + 1 by omega] at h2; simpa using h2
    cases a
    · simp only [posT, key]
      constructor
      · rintro ⟨h1, h2⟩; exact ⟨by omega, h2⟩
      · rintro ⟨h1, h2⟩
        refine ⟨?_, h2⟩
        by_cases e : x = b
        · subst e; simp at h2
        · omega
    · simp only [posT, List.mem_cons, key]
      constructor
      · rintro (rfl | ⟨h1, h2⟩)
        · exact ⟨Nat.le_refl _, by simp⟩
        · exact ⟨by omega, h2⟩
      · rintro ⟨h1, h2⟩
        by_cases e : x = b
        · exact .inl e
        · exact .inr ⟨by omega, h2⟩
theorem posT_length (T : List Bool) : ∀ b, (posT T b).length = T.count true := by
  induction T with
  | nil => intro b; rfl
  | cons a T ih => intro b; cases a <;> simp [posT, ih]
theorem bools_ext {n : Nat} {T U : List Bool} (hT : T.length = n) (hU : U.length = n) (h : ∀ j, j < n → T.getD j false = U.getD j false) : T = U := by
  refine List.ext_getElem (by rw [hT, hU]) fun j h1 h2 => ?_
  have := h j (by omega)
  rw [List.getD_eq_getElem?_getD, List.getD_eq_getElem?_getD, List.getElem?_eq_getElem h1, List.getElem?_eq_getElem h2] at this
  exact this

/-- Unit columns of which one row is missing. -/
theorem dt_missing {k r : Nat} (J : Nat → Nat) {i0 : Nat} (h0 : i0 < k) (h : ∀ j, j < k → r + i0 ≠ J j) : Go.Det.dt k (fun j i => if r + i = J j then (1 : Rat) else 0) = 0 := by
  rw [← Go.Det.dt_turn]
  obtain ⟨M, hM⟩ : ∃ M : Nat → Nat → Rat, M = fun i j => if r + i = J j then 1 else 0 := ⟨_, rfl⟩
  have h2 := (Go.Det.alt_dt (R := Rat) k).smul M i0 0 (M i0) h0
  rw [Rat.zero_mul] at h2
  have h3 : Go.Det.dt k M = Go.Det.dt k (Go.Det.upd M i0 (fun j => 0 * M i0 j)) := by
    refine Go.Det.dt_congr fun i j hi hj => ?_
    unfold Go.Det.upd
    by_cases e : i = i0
    · rw [if_pos e, e, hM]; simp [h j hj]
    · rw [if_neg e]
  rw [hM] at h3 h2
  rw [h3]; exact h2

/-- Without a letter: at most one choice of columns has a minor that is not zero. -/
theorem gW_start (n k r : Nat) (A : List Nat) : sumB n (fun T => gW n k (A.map (ucol r)) r [] T * gW n k (A.map (ucol r)) r [] T) ≤ 1 := by
  obtain ⟨T0, hT0⟩ : ∃ T0 : List Bool, T0 = (List.range n).map fun j => decide (r ≤ j ∧ j < r + k ∧ j ∉ A) := ⟨_, rfl⟩
  have hl0 : T0.length = n := by rw [hT0]; simp
  have hle : ∀ T : List Bool, T.length = n → gW n k (A.map (ucol r)) r [] T ≤ 1 ∧ (T ≠ T0 → gW n k (A.map (ucol r)) r [] T = 0) := by
    intro T hTn
    unfold gW
    by_cases hc : (A.map (ucol r)).length + T.count true = k
    · rw [if_pos hc]
      rw [List.length_map] at hc
      obtain ⟨J, hJ⟩ : ∃ J, A ++ posT T 0 = J := ⟨_, rfl⟩
      have hJl : J.length = k := by rw [← hJ, List.length_append, posT_length]; exact hc
      have hval : ∀ j, j < k → ∀ t : Rat, t ≠ 0 → ∀ i, i < k → ev (((A.map (ucol r) ++ selT (colW n [] r) T 0).getD j zcol) i) t = if r + i = J.getD j 0 then 1 else 0 := by
        intro j hj t ht i hi
        rw [selT_pos]
        rcases Nat.lt_or_ge j A.length with h | h
        · rw [List.getD_eq_getElem?_getD, List.getElem?_append_left (by simpa using h), ← hJ, List.getD_eq_getElem?_getD, List.getElem?_append_left h, List.getElem?_map, List.getElem?_eq_getElem h]
          exact ev_ucol ht r _ i
        · have hp : j - A.length < (posT T 0).length := by rw [← hJ, List.length_append] at hJl; omega
          rw [List.getD_eq_getElem?_getD, List.getElem?_append_right (by simpa using h), ← hJ, List.getD_eq_getElem?_getD, List.getElem?_append_right h, List.getElem?_map, List.length_map, List.getElem?_eq_getElem hp]
          refine colW_nil ?_ t ht i
          have hm := (mem_posT T 0 _).1 (List.getElem_mem hp)
          rcases Nat.lt_or_ge (posT T 0)[j - A.length] n with h1 | h1
          · exact h1
          · have := hm.2
            rw [List.getD_eq_getElem?_getD, List.getElem?_eq_none (by omega)] at this
            cases this
      obtain ⟨h1, h2⟩ := mnL_unit (fun j => J.getD j 0) hval
      refine ⟨h1, fun hne => h2 fun t ht => ?_⟩
      by_cases hall : ∀ i, i < k → r + i ∈ J
      · exfalso
        apply hne
        have hperm := pig_perm (List.range' r k) J List.nodup_range' (fun x hx => by
          rw [List.mem_range'_1] at hx
          have := hall (x - r) (by omega)
          rwa [show r + (x - r) = x by omega] at this) (by rw [hJl, List.length_range'])
        have hnd : J.Nodup := hperm.nodup_iff.2 List.nodup_range'
        refine bools_ext hTn hl0 fun j hj => ?_
        have hmem : T.getD j false = true ↔ j ∈ posT T 0 := by rw [mem_posT]; simp
        have e0 : T0.getD j false = decide (r ≤ j ∧ j < r + k ∧ j ∉ A) := by rw [hT0, List.getD_eq_getElem?_getD, List.getElem?_map, List.getElem?_range hj]; rfl
        rw [e0, Bool.eq_iff_iff, hmem, decide_eq_true_iff]
        rw [← hJ] at hnd hperm
        constructor
        · intro hp
          have hr := List.mem_range'_1.1 ((hperm.mem_iff).1 (List.mem_append_right _ hp))
          exact ⟨hr.1, hr.2, fun ha => (List.nodup_append.1 hnd).2.2 j ha j hp rfl⟩
        · rintro ⟨h3, h4, h5⟩
          rcases List.mem_append.1 ((hperm.mem_iff).2 (List.mem_range'_1.2 ⟨h3, h4⟩)) with h6 | h6
          · exact absurd h6 h5
          · exact h6
      · have : ∃ i, i < k ∧ r + i ∉ J := Classical.byContradiction fun hn => hall fun i hi => Classical.byContradiction fun hi2 => hn ⟨i, hi, hi2⟩
        obtain ⟨i, hi, hij⟩ := this
        refine dt_missing _ hi fun j hj e => hij ?_
        rw [e, List.getD_eq_getElem?_getD, List.getElem?_eq_getElem (by omega)]
        exact List.getElem_mem _
    · rw [if_neg hc]; exact ⟨Nat.zero_le _, fun _ => rfl⟩
  rw [sumB_one T0 hl0 _ fun T hT hne => by rw [(hle T hT).2 hne]]
  have := (hle T0 hl0).1
  calc _ ≤ 1 * 1 := Nat.mul_le_mul this this
    _ = 1 := rfl

/-- After a word of m letters. -/
theorem gW_sum (n k r : Nat) (A : List Nat) : ∀ (m : Nat) (w : List Int), w.length = m → NWord n w → sumB n (fun T => gW n k (A.map (ucol r)) r w T * gW n k (A.map (ucol r)) r w T) ≤ 6 ^ m := by
  intro m
  induction m with
  | zero => intro w hw _; rw [List.length_eq_zero_iff.1 hw]; exact gW_start n k r A
  | succ m ih =>
    intro w hw hn
    obtain ⟨v, x, rfl⟩ : ∃ v x, w = v ++ [x] := by
      rcases List.eq_nil_or_concat w with h | ⟨v, x, h⟩
      · rw [h] at hw; simp at hw
      · exact ⟨v, x, by simpa using h⟩
    have hx := hn x (by simp)
    have h1 := ih v (by simpa using hw) fun y hy => hn y (List.mem_append_left _ hy)
    have h2 := sumB_blk (x.natAbs - 1) n _ _ (by omega) (gW_blk (k := k) (A.map (ucol r)) r hn)
    rw [Nat.pow_succ]; omega
theorem le_six {a m : Nat} (h : a * a ≤ 6 ^ m) (hm : m ≤ 16) : a ≤ 1679616 := by
  have h1 : 6 ^ m ≤ 6 ^ 16 := Nat.pow_le_pow_right (by decide) hm
  rcases Nat.lt_or_ge 1679616 a with h2 | h2
  · have := Nat.mul_le_mul h2 h2
    have e : (6 : Nat) ^ 16 = 2821109907456 := by decide
    omega
  · exact h2
theorem mn_unit_cols {n k r : Nat} {w : List Int} (hw : NWord n w) (hl : w.length ≤ 16) (A C : List Nat) (hC : C.Pairwise (· < ·)) (hCn : ∀ x ∈ C, x < n) (hk : A.length + C.length = k) :
    n1 (mnL k (A.map (ucol r) ++ C.map (colW n w r))).c ≤ 1679616 := by
  obtain ⟨T, hT, hf⟩ := selT_of_sorted n C 0 hC fun x hx => ⟨Nat.zero_le _, by have := hCn x hx; omega⟩
  have h1 := gW_sum n k r A w.length w rfl hw
  have h2 := le_sumB (fun T => gW n k (A.map (ucol r)) r w T * gW n k (A.map (ucol r)) r w T) T hT
  have h3 := le_six (Nat.le_trans h2 h1) hl
  have e : (A.map (ucol r)).length + T.count true = k := by
    have := congrArg List.length (hf (ucol r))
    rw [selT_length, List.length_map] at this
    rw [List.length_map, this]; exact hk
  unfold gW at h3
  rw [if_pos e, hf] at h3
  exact h3
theorem mn_dcols {n k r : Nat} {w : List Int} (hw : NWord n w) (hl : w.length ≤ 16) : ∀ (J A C : List Nat), (C ++ J).Pairwise (· < ·) → (∀ x ∈ C ++ J, x < n) → A.length + C.length + J.length = k →
    n1 (mnL k (A.map (ucol r) ++ C.map (colW n w r) ++ J.map (dcol n w r))).c ≤ 2 ^ J.length * 1679616 := by
  intro J
  induction J with
  | nil =>
    intro A C hp hn hk
    simp only [List.append_nil, List.map_nil] at hp hn ⊢
    have := mn_unit_cols (r := r) hw hl A C hp hn (by simpa using hk)
    simpa using this
  | cons j J ih =>
    intro A C hp hn hk
    simp only [List.length_cons] at hk
    have h1 := ih (A ++ [j]) C (hp.sublist (List.Sublist.append (List.Sublist.refl _) (List.sublist_cons_self _ _))) (fun x hx => hn x (by rcases List.mem_append.1 hx with h | h; exact List.mem_append_left _ h; exact List.mem_append_right _ (List.mem_cons_of_mem _ h))) (by simp; omega)
    have h2 := ih A (C ++ [j]) (by simpa using hp) (fun x hx => hn x (by simpa using hx)) (by simp; omega)
    have h3 := mnL_dcol (n := n) (w := w) (r := r) (j := j) (k := k) (L1 := A.map (ucol r) ++ C.map (colW n w r)) (L2 := J.map (dcol n w r)) (by simp; omega)
    have e2 : A.map (ucol r) ++ (C ++ [j]).map (colW n w r) ++ J.map (dcol n w r) = A.map (ucol r) ++ C.map (colW n w r) ++ colW n w r j :: J.map (dcol n w r) := by simp
    rw [e2] at h2
    have e1 : n1 (mnL k (A.map (ucol r) ++ C.map (colW n w r) ++ ucol r j :: J.map (dcol n w r))).c = n1 (mnL k ((A ++ [j]).map (ucol r) ++ C.map (colW n w r) ++ J.map (dcol n w r))).c := by
      have hp2 : (A.map (ucol r) ++ C.map (colW n w r) ++ ucol r j :: J.map (dcol n w r)).Perm ((A ++ [j]).map (ucol r) ++ C.map (colW n w r) ++ J.map (dcol n w r)) := by
        rw [List.map_append, List.append_assoc, List.append_assoc, List.append_assoc]
        refine List.Perm.append_left _ ?_
        simp
      exact mnL_perm hp2 [] (by simp; omega)
    rw [List.map_cons, List.length_cons, Nat.pow_succ]
    omega

/-- Rows from r on and the columns J of I - B. -/
def subM (n : Nat) (w : List Int) (r : Nat) (J : List Nat) : List (List LP) := matM J.length fun i l => dcol n w r (J.getD l 0) i
theorem subM_mn (n : Nat) (w : List Int) (r : Nat) (J : List Nat) : expandL J.length (subM n w r J) = mnL J.length (J.map (dcol n w r)) := by
  unfold subM mnL
  congr 1
  unfold matM
  refine List.map_congr_left fun i hi => List.map_congr_left fun l hl => ?_
  have hl := List.mem_range.1 hl
  show dcol n w r (J.getD l 0) i = (List.map (dcol n w r) J).getD l zcol i
  rw [List.getD_eq_getElem?_getD, List.getD_eq_getElem?_getD, List.getElem?_map, List.getElem?_eq_getElem hl]; rfl
theorem dcol_succ (n : Nat) (w : List Int) (r j i : Nat) : dcol n w r j (i + 1) = dcol n w (r + 1) j i := by
  unfold dcol ucol colW
  rw [show r + (i + 1) = r + 1 + i by omega]
theorem subM_rest {n : Nat} {w : List Int} {r c : Nat} {J : List Nat} (hc : c < J.length) : restM c (subM n w r J) = subM n w (r + 1) (J.eraseIdx c) := by
  have hsq := sqM_matM J.length fun i l => dcol n w r (J.getD l 0) i
  have hlen : (J.eraseIdx c).length = J.length - 1 := List.length_eraseIdx_of_lt hc
  refine List.ext_getElem (by rw [restM_length]; simp [subM, matM, hlen]) fun i h1 h2 => ?_
  rw [restM_length] at h1
  have hil : i < J.length - 1 := by simpa [subM, matM] using h1
  have hi1 : i + 1 < (subM n w r J).length := by simp [subM, matM]; omega
  rw [← nthm_lt (by rw [restM_length]; simpa [subM, matM] using hil), ← nthm_lt h2, nthm_restM hi1]
  unfold subM
  rw [nthm_matM (by omega), nthm_matM (by omega)]
  refine List.ext_getElem (by rw [cutR_length (by simpa using hc)]; simp [hlen]) fun l h3 h4 => ?_
  have hl4 : l < J.length - 1 := by simpa [hlen] using h4
  have hskp : Go.Det.skp c l < J.length := by unfold Go.Det.skp; split <;> omega
  rw [← nthp_lt h3, nthp_cutR (by simpa using hc) (by simpa using hl4), nthp_lt (by simpa using hskp)]
  simp only [List.getElem_map, List.getElem_range]
  rw [dcol_succ]
  congr 1
  rw [List.getD_eq_getElem?_getD, List.getD_eq_getElem?_getD, List.getElem?_eraseIdx]
  unfold Go.Det.skp
  split <;> rfl
theorem range_dcol (n : Nat) (w : List Int) : alexM n w = subM n w 0 (List.range (n - 1)) := by
  unfold alexM subM matM alexR
  rw [List.length_range]
  refine List.map_congr_left fun i hi => List.map_congr_left fun k hk => ?_
  have hk := List.mem_range.1 hk
  show _ = dcol n w 0 ((List.range (n - 1)).getD k 0) i
  rw [List.getD_eq_getElem?_getD, List.getElem?_range hk]
  unfold dcol ucol colW
  simp

theorem n1_entry {n : Nat} {w : List Int} (hw : NWord n w) (hl : w.length ≤ 16) {i j : Nat} (hj : j < n) : n1 (nthp (rowM n w i) j).c ≤ 1679616 := by
  have h1 := mn_unit_cols (r := i) hw hl [] [j] (by simp) (by simpa using hj) (k := 1) rfl
  have e : mnL 1 (([] : List Nat).map (ucol i) ++ [j].map (colW n w i)) = nthp (rowM n w i) j := by
    refine ev_ext (mnL_trimmed _ _) (trimmed_rowM hw i j hj) fun t ht => ?_
    rw [ev_mnL ht]
    simp only [Go.Det.dt, Go.Det.sumN, Go.Det.sgN, List.map_nil, List.map_cons, List.nil_append]
    unfold colW
    simp; grind
  rwa [e] at h1
theorem within_entry {n : Nat} {w : List Int} (hw : NWord n w) (hl : w.length ≤ 16) {r i j : Nat} (hj : j < n) : Within (dcol n w r j i) (-16) 17 := by
  refine within_padd ?_ ?_ _
  · unfold ucol oneP
    split
    · exact (within_pterm 1 0).mono (by omega) (by omega)
    · exact within_pzero _ _
  · unfold colW
    exact (pb_rowM hw (r + i) hj).wi.mono (by omega) (by omega)
theorem n1_dcol {n : Nat} {w : List Int} (hw : NWord n w) (hl : w.length ≤ 16) {r i j : Nat} (hj : j < n) : n1 (dcol n w r j i).c ≤ 1679617 := by
  have h1 := n1_padd (ucol r j i) (colW n w r j i) (-1)
  have h2 := n1_entry hw hl (i := r + i) hj
  have h3 : n1 (ucol r j i).c ≤ 1 := by
    unfold ucol oneP
    split
    · exact n1_pterm 1 0
    · simp [pzero, n1]
  unfold dcol
  unfold colW at h1 ⊢
  simp at h1; omega

theorem within_expTo {f : Nat → LP} {lo hi : Int} (c : Nat) (h : ∀ k, k < c → Within (f k) lo hi) : Within (expTo f c) lo hi := by
  induction c with
  | zero => exact within_pzero _ _
  | succ c ih => exact within_padd (ih fun k hk => h k (by omega)) (h c (by omega)) _
theorem n1_expTo {f : Nat → LP} {M : Nat} (c : Nat) (h : ∀ k, k < c → n1 (f k).c ≤ M) : n1 (expTo f c).c ≤ c * M := by
  induction c with
  | zero => simp [expTo, pzero, n1]
  | succ c ih =>
    have h1 := n1_padd (expTo f c) (f c) (if c % 2 = 0 then 1 else -1)
    have h2 := ih fun k hk => h k (by omega)
    have h3 := h c (by omega)
    have h4 : (if c % 2 = 0 then (1 : Int) else -1).natAbs = 1 := by split <;> rfl
    rw [h4] at h1
    rw [expTo, Nat.add_mul]; omega
theorem pfit_tr {p : LP} (ht : Trimmed p) {lo hi : Int} (h : Within p lo hi) (h1 : -1000 ≤ lo) (h2 : hi ≤ 1000) : PFit p := by
  rcases h with h | h
  · exact ⟨by rw [ht.zero h]; decide, by rw [h]; simp⟩
  · by_cases e : p.c = []
    · exact ⟨by rw [ht.zero e]; decide, by rw [e]; simp⟩
    · have := List.length_pos_iff.2 e
      exact ⟨by omega, by omega⟩
theorem subM_fit {n : Nat} {w : List Int} (hw : NWord n w) (hl : w.length ≤ 16) : ∀ (k r : Nat) (J : List Nat), J.length = k → k ≤ 5 → J.Pairwise (· < ·) → (∀ x ∈ J, x < n) →
    ExpFit k (subM n w r J) ∧ Within (expandL k (subM n w r J)) (-(16 * (k : Int))) (16 * (k : Int) + 1) ∧ n1 (expandL k (subM n w r J)).c ≤ 2 ^ k * 1679616 := by
  intro k
  induction k with
  | zero =>
    intro r J hJ _ _ _
    refine ⟨trivial, (within_pterm 1 0).mono (by omega) (by omega), ?_⟩
    exact Nat.le_trans (n1_pterm 1 0) (by decide)
  | succ k ih =>
    intro r J hJ hk hp hn
    have hsq : SqM (k + 1) (subM n w r J) := by rw [← hJ]; exact sqM_matM _ _
    have hent : ∀ i j, i < k + 1 → j < k + 1 → nthp (nthm (subM n w r J) i) j = dcol n w r (J.getD j 0) i := fun i j hi hj => by
      unfold subM; rw [nthp_matM (by omega) (by omega)]
    have hJn : ∀ j, j < k + 1 → J.getD j 0 < n := fun j hj => by
      rw [List.getD_eq_getElem?_getD, List.getElem?_eq_getElem (by omega)]
      exact hn _ (List.getElem_mem _)
    have hsub : ∀ c, c < k + 1 → _ := fun c hc => ih (r + 1) (J.eraseIdx c) (by rw [List.length_eraseIdx_of_lt (by omega)]; omega) (by omega) (hp.sublist (List.eraseIdx_sublist _ _)) (fun x hx => hn x (List.mem_of_mem_eraseIdx hx))
    have hrest : ∀ c, c < k + 1 → restM c (subM n w r J) = subM n w (r + 1) (J.eraseIdx c) := fun c hc => subM_rest (by omega)
    have hpw : 2 ^ k ≤ 16 := Nat.le_trans (Nat.pow_le_pow_right (by decide) (show k ≤ 4 by omega)) (by decide)
    have hw0 : ∀ c, c < k + 1 → Within (nthp (nthm (subM n w r J) 0) c) (-16) 17 := fun c hc => by rw [hent 0 c (by omega) hc]; exact within_entry hw hl (hJn c hc)
    have hn0 : ∀ c, c < k + 1 → n1 (nthp (nthm (subM n w r J) 0) c).c ≤ 1679617 := fun c hc => by rw [hent 0 c (by omega) hc]; exact n1_dcol hw hl (hJn c hc)
    have ht0 : ∀ c, c < k + 1 → Trimmed (nthp (nthm (subM n w r J) 0) c) := fun c hc => by rw [hent 0 c (by omega) hc]; exact padd_trimmed _ _ _
    have hwp : ∀ c, c < k + 1 → Within (pmul (nthp (nthm (subM n w r J) 0) c) (expandL k (restM c (subM n w r J)))) (-(16 * ((k + 1 : Nat) : Int))) (16 * ((k + 1 : Nat) : Int) + 1) := fun c hc => by
      have := (hsub c hc).2.1
      rw [hrest c hc]
      exact (within_pmul (hw0 c hc) this).mono (by omega) (by omega)
    have hnr : ∀ c, c < k + 1 → n1 (expandL k (restM c (subM n w r J))).c ≤ 26873856 := fun c hc => by
      have := (hsub c hc).2.2
      rw [hrest c hc]
      have := Nat.mul_le_mul_right 1679616 hpw
      omega
    have hprod : ∀ c, c < k + 1 → n1 (nthp (nthm (subM n w r J) 0) c).c * n1 (expandL k (restM c (subM n w r J))).c ≤ 1679617 * 26873856 := fun c hc => Nat.mul_le_mul (hn0 c hc) (hnr c hc)
    have hnp : ∀ c, c < k + 1 → n1 (pmul (nthp (nthm (subM n w r J) 0) c) (expandL k (restM c (subM n w r J)))).c ≤ 1679617 * 26873856 := fun c hc => Nat.le_trans (n1_pmul _ _) (hprod c hc)
    refine ⟨fun c hc => ⟨pfit_tr (ht0 c hc) (hw0 c hc) (by omega) (by omega), ?_, Nat.le_trans (hprod c hc) (by decide), ?_, ?_, ?_, ?_⟩, ?_, ?_⟩
    · have := (hsub c hc).2.1
      rw [hrest c hc]
      exact pfit_tr (expandL_trimmed _ _) this (by omega) (by omega)
    · exact pfit_tr (expTo_trimmed _ _) (within_expTo c fun j hj => hwp j (by omega)) (by omega) (by omega)
    · exact pfit_tr (pmul_trimmed _ _) (hwp c hc) (by omega) (by omega)
    · have h1 := n1_expTo c fun j hj => hnp j (show j < k + 1 by omega)
      have h2 := hnp c hc
      have h3 : c * (1679617 * 26873856) ≤ 5 * (1679617 * 26873856) := Nat.mul_le_mul_right _ (by omega)
      omega
    · rw [hrest c hc]; exact (hsub c hc).1
    · exact within_expTo _ fun j hj => hwp j hj
    · rw [← hJ, subM_mn]
      have := mn_dcols (r := r) (k := J.length) hw hl J [] [] (by simpa using hp) (by simpa using hn) (by simp)
      simpa using this
/-- All that alexander.Polynomial asks for. -/
theorem alex_fit {n : Nat} {w : List Int} (hw : NWord n w) (hl : w.length ≤ 16) (h2 : 2 ≤ n) (h6 : n ≤ 6) :
    (∀ i k, i < n → k < n → PFit (nthp (rowM n w i) k) ∧ n1 (nthp (rowM n w i) k).c ≤ 100000000000000) ∧ ExpFit (n - 1) (alexM n w) ∧ POk (expandL (n - 1) (alexM n w)) ∧ n1 (expandL (n - 1) (alexM n w)).c ≤ 60000000 ∧
    Within (expandL (n - 1) (alexM n w)) (-80) 81 := by
  obtain ⟨h3, h4, h5⟩ := subM_fit hw hl (n - 1) 0 (List.range (n - 1)) (by simp) (by omega) List.pairwise_lt_range fun x hx => by have := List.mem_range.1 hx; omega
  rw [range_dcol]
  have hp : 2 ^ (n - 1) ≤ 32 := Nat.le_trans (Nat.pow_le_pow_right (by decide) (show n - 1 ≤ 5 by omega)) (by decide)
  have h6 := Nat.mul_le_mul_right 1679616 hp
  have hwi := h4.mono (lo' := -80) (hi' := 81) (by omega) (by omega)
  refine ⟨fun i k hi hk => ⟨pfit_tr (trimmed_rowM hw i k hk) (pb_rowM hw i hk).wi (by omega) (by omega), Nat.le_trans (n1_entry hw hl hk) (by decide)⟩, h3, POk.of (expandL_trimmed _ _) hwi (by omega) (by omega) (by omega) (by omega) (by omega), by omega, hwi⟩

end Go.Proofs.Ytplekfgadbjgdaa

namespace Go.Proofs.Ytplekfgadbjgdaa
open Go.RowKit Go.Sl
open Go.Det (sumN dt mul upd Alt uni)

/-- The minor of I - B. -/
def cW (t : Rat) (m : Nat) (w : List Int) : Rat := dt m (fun i j => uni i j - BW t w i j)
theorem BW_rows {t : Rat} (ht : t ≠ 0) {n : Nat} {w : List Int} (hw : NWord n w) {i : Nat} (hi : i < n) : sumN (fun j => BW t w i j) n = 1 := by
  rw [← vsum_sumN]; unfold BW; rw [vsum_bacts ht w hw, vsum_unit, if_pos hi]
theorem BW_cols {t : Rat} (ht : t ≠ 0) {n : Nat} {w : List Int} (hw : NWord n w) {j : Nat} (hj : j < n) : sumN (fun i => t ^ i * BW t w i j) n = t ^ j := by
  rw [← bacts_sumN hw (fun i => t ^ i) hj, bacts_pow ht]
theorem cancel_mul {a x y : Rat} (ha : a ≠ 0) (h : a * x = a * y) : x = y := by
  have h7 := Rat.inv_mul_cancel _ ha
  have h6 := congrArg (a⁻¹ * ·) h
  grind
theorem rpow_ne {t : Rat} (ht : t ≠ 0) (n : Nat) : t ^ n ≠ 0 := by
  induction n with
  | zero => rw [Rat.pow_zero]; decide
  | succ n ih => rw [Rat.pow_succ]; intro h; rcases Rat.mul_eq_zero.1 h with h | h; exact ih h; exact ht h
theorem ev_alex {t : Rat} (ht : t ≠ 0) {m : Nat} {w : List Int} (hw : NWord (m + 1) w) : ev (expandL m (alexM (m + 1) w)) t = cW t m w := by
  have hsq := sqM_alexM (m + 1) w
  rw [Nat.add_sub_cancel] at hsq
  rw [ev_expandL ht _ _ hsq]
  refine Go.Det.dt_congr fun i j hi hj => ?_
  unfold evM
  have h1 : nthp (nthm (alexM (m + 1) w) i) j = padd (oneP (decide (i = j))) (nthp (rowM (m + 1) w i) j) (-1) := by
    unfold alexM
    rw [nthm_lt (by simpa using hi)]
    simp only [List.getElem_map, List.getElem_range]
    unfold alexR
    rw [nthp_lt (by simpa using hj)]
    simp
  rw [h1, ev_padd _ _ _ ht, ev_rowM ht hw i j (by omega)]
  have h2 : ev (oneP (decide (i = j))) t = uni i j := by
    have := ev_ucol ht 0 j i
    unfold ucol at this
    rw [Nat.zero_add] at this
    rw [this]; rfl
  rw [h2]; unfold BW; simp; grind
theorem mono_trimmed {s e : Int} (hs : s = 1 ∨ s = -1) : Trimmed ⟨e, [s]⟩ := ⟨fun h => by simp at h, fun _ => by simp [nth]; omega, fun _ => by simp [nth]; omega⟩
theorem ev_mono (s e : Int) (t : Rat) : ev ⟨e, [s]⟩ t = t ^ e * s := by show t ^ e * ((s : Rat) + t * 0) = _; grind
/-- p and q differ by a unit. -/
def UnitEq (p q : LP) : Prop := ∃ s e : Int, (s = 1 ∨ s = -1) ∧ p = pmul q ⟨e, [s]⟩
theorem UnitEq.pnorm {p q : LP} (hq : Trimmed q) (h : UnitEq p q) : pnorm p = pnorm q := by
  obtain ⟨s, e, hs, rfl⟩ := h
  exact pnorm_unit hq hs
theorem mono_mul {s s' e e' : Int} (hs : s = 1 ∨ s = -1) (hs' : s' = 1 ∨ s' = -1) : pmul ⟨e, [s]⟩ ⟨e', [s']⟩ = ⟨e + e', [s * s']⟩ :=
  ev_ext (pmul_trimmed _ _) (mono_trimmed (by rcases hs with rfl | rfl <;> rcases hs' with rfl | rfl <;> simp)) fun t ht => by
    rw [ev_pmul _ _ ht, ev_mono, ev_mono, ev_mono, Rat.zpow_add ht, Rat.intCast_mul]; grind
theorem pmul_assoc' (a b c : LP) : pmul (pmul a b) c = pmul a (pmul b c) :=
  ev_ext (pmul_trimmed _ _) (pmul_trimmed _ _) fun t ht => by rw [ev_pmul _ _ ht, ev_pmul _ _ ht, ev_pmul _ _ ht, ev_pmul _ _ ht]; grind
theorem UnitEq.trans {p q r : LP} (h : UnitEq p q) (k : UnitEq q r) : UnitEq p r := by
  obtain ⟨s, e, hs, rfl⟩ := h
  obtain ⟨s', e', hs', rfl⟩ := k
  refine ⟨s' * s, e' + e, by rcases hs with rfl | rfl <;> rcases hs' with rfl | rfl <;> simp, ?_⟩
  rw [pmul_assoc', mono_mul hs' hs]
end Go.Proofs.Ytplekfgadbjgdaa

namespace Go.Proofs.Ytplekfgadbjgdaa
open Go.RowKit Go.Sl
open Go.Det (sumN dt mul upd Alt uni skp sgN)

theorem sumN_cut {f : Nat → Rat} (a : Nat) : ∀ b, (∀ k, a ≤ k → k < a + b → f k = 0) → sumN f (a + b) = sumN f a
  | 0, _ => rfl
  | b + 1, h => by
    rw [show a + (b + 1) = (a + b) + 1 by omega, sumN, sumN_cut a b fun k h1 h2 => h k h1 (by omega), h (a + b) (by omega) (by omega), Rat.add_zero]
/-- A block of zeros below on the left. -/
theorem dt_block (b : Nat) : ∀ (a : Nat) (A : Nat → Nat → Rat), (∀ i j, a ≤ i → i < a + b → j < a → A i j = 0) → dt (a + b) A = dt a A * dt b (fun i j => A (a + i) (a + j))
  | 0, A, _ => by
    rw [show dt 0 A = 1 from rfl, Rat.one_mul, Nat.zero_add]
    exact Go.Det.dt_congr fun i j _ _ => by rw [Nat.zero_add, Nat.zero_add]
  | a + 1, A, h => by
    rw [← Go.Det.dt_turn, show a + 1 + b = (a + b) + 1 by omega, dt, ← Go.Det.dt_turn (a + 1) A, dt, show a + b + 1 = (a + 1) + b by omega]
    rw [sumN_cut (a + 1) b fun k h1 h2 => by rw [h k 0 h1 h2 (by omega)]; simp]
    rw [Rat.mul_comm, ← Go.Det.sumN_mul]
    refine Go.Det.sumN_congr _ fun c hc => ?_
    have e1 := Go.Det.dt_turn (a + b) (fun i j => A (skp c i) (j + 1))
    have e2 := Go.Det.dt_turn a (fun i j => A (skp c i) (j + 1))
    have e3 := dt_block b a (fun i j => A (skp c i) (j + 1)) fun i j h1 h2 h3 => by
      unfold skp; rw [if_neg (by omega)]
      exact h (i + 1) (j + 1) (by omega) (by omega) (by omega)
    have e4 : dt b (fun i j => A (skp c (a + i)) (a + j + 1)) = dt b (fun i j => A (a + 1 + i) (a + 1 + j)) := Go.Det.dt_congr fun i j hi hj => by
      unfold skp; rw [if_neg (by omega), show a + i + 1 = a + 1 + i by omega, show a + j + 1 = a + 1 + j by omega]
    rw [e1, e3, e4, e2]
    grind
/-- All rows have the sum 0. -/
theorem dt_rowsum0 {n : Nat} (A : Nat → Nat → Rat) (hn : 0 < n) (h : ∀ i, i < n → sumN (fun j => A i j) n = 0) : dt n A = 0 := by
  have h1 := comb (Go.Det.alt_turn n) (fun j i => A i j) (fun _ => 1) (r := 0) hn
  rw [Rat.one_mul] at h1
  rw [← h1]
  have h2 := (Go.Det.alt_turn (R := Rat) n).smul (fun j i => A i j) 0 0 (fun _ => 0) hn
  refine Eq.trans ?_ (h2.trans (Rat.zero_mul _))
  refine Go.Det.dt_congr fun i j hi hj => ?_
  unfold upd
  split
  · rw [Rat.zero_mul, ← h i hi]
    exact Go.Det.sumN_congr n fun k _ => by rw [Rat.one_mul]
  · rfl
/-- A row in place of which stands a unit row: whichever it is. -/
theorem minor_any {n : Nat} (K : Nat → Nat → Rat) (v : Nat → Rat) {r m : Nat} (hr : r < n) (hm : m < n) (hrow : ∀ i, i < n → sumN (fun j => K i j) n = 0) (hcol : ∀ j, j < n → sumN (fun i => v i * K i j) n = 0) :
    v m * dt n (upd K r (uni r)) = v r * dt n (upd K m (uni m)) := by
  have usum : ∀ i, i < n → sumN (fun j => uni (R := Rat) i j) n = 1 := fun i hi => by
    rw [Go.Det.sumN_one n i hi (fun k _ hk => by unfold uni; rw [if_neg (Ne.symm hk)])]; unfold uni; simp
  by_cases e : r = m
  · rw [e]
  · have alt := Go.Det.alt_dt (R := Rat) n
    have s1 : dt n (upd K r (uni r)) = dt n (upd K r (uni m)) := by
      have l := alt.lin K r 1 (-1) (uni r) (uni m) hr
      have z : dt n (upd K r (fun j => 1 * uni r j + -1 * uni m j)) = 0 := dt_rowsum0 _ (by omega) fun i hi => by
        unfold upd
        split
        · rw [Go.Det.sumN_lin, usum r hr, usum m hm]; grind
        · exact hrow i hi
      rw [z] at l
      grind
    obtain ⟨A, hA⟩ : ∃ A, A = upd K r (uni m) := ⟨_, rfl⟩
    have h1 := comb alt A v hm
    have hAr : A r = uni m := by rw [hA, Go.Det.upd_same]
    have hAm : ∀ k, k ≠ r → A k = K k := fun k hk => by rw [hA, Go.Det.upd_other _ _ hk]
    have h2 : ∀ j, j < n → sumN (fun k => v k * A k j) n = v r * uni m j + (-v r) * K r j := fun j hj => by
      have c : ∀ k, k < n → v k * A k j = 1 * (v k * K k j) + 1 * (uni r k * (v r * uni m j - v r * K r j)) := fun k _ => by
        by_cases ek : k = r
        · rw [ek, hAr]; unfold uni; rw [if_pos rfl]; grind
        · rw [hAm k ek]; unfold uni; rw [if_neg (Ne.symm ek)]; grind
      rw [Go.Det.sumN_congr n c, Go.Det.sumN_lin, hcol j hj]
      have : sumN (fun k => uni (R := Rat) r k * (v r * uni m j - v r * K r j)) n = v r * uni m j - v r * K r j := by
        rw [Go.Det.sumN_one n r hr (fun k _ hk => by unfold uni; rw [if_neg (Ne.symm hk)]; simp)]
        unfold uni; simp
      rw [this]; grind
    have h3 : dt n (upd A m (fun j => sumN (fun k => v k * A k j) n)) = dt n (upd A m (fun j => v r * uni m j + (-v r) * K r j)) := Go.Det.dt_congr fun i j hi hj => by
      unfold upd; split
      · exact h2 j hj
      · rfl
    have l := alt.lin A m (v r) (-v r) (uni m) (K r) hm
    have z1 : dt n (upd A m (uni m)) = 0 := alt.zero hr hm e _ fun j _ => by
      rw [Go.Det.upd_other _ _ e, Go.Det.upd_same, hAr]
    have z2 : dt n (upd A m (K r)) = -dt n (upd K m (uni m)) := by
      have := alt.swap hr hm e K (uni m) (K r)
      rw [Go.Det.upd_self] at this
      rw [hA]; exact this
    rw [s1, ← hA, ← h1, h3, l, z1, z2]
    grind
/-- The last row of which is a unit row. -/
theorem dt_lastunit {m : Nat} (K : Nat → Nat → Rat) : dt (m + 1) (upd K m (uni m)) = dt m K := by
  rw [← Go.Det.dt_turn, Go.Det.dt_corner m _ (fun i hi => by rw [Go.Det.upd_same]; unfold uni; rw [if_neg (by omega)])]
  rw [Go.Det.upd_same, ← Go.Det.dt_turn m K]
  have : uni (R := Rat) m m = 1 := by unfold uni; rw [if_pos rfl]
  rw [this, Rat.one_mul]
  exact Go.Det.dt_congr fun i j hi hj => by rw [Go.Det.upd_other _ _ (by omega)]

/-! ### Words of which the letters are moved up -/
def shW (d : Nat) (y : List Int) : List Int := y.map fun z => if z < 0 then z - d else z + d
theorem bact_out {t : Rat} {n : Nat} {x : Int} (f : Nat → Rat) (h0 : x ≠ 0) (hn : x.natAbs < n) {j : Nat} (hj : n ≤ j) : bact t x f j = f j := by
  unfold bact bactP bactN
  split <;> dsimp only <;> rw [if_neg (by omega), if_neg (by omega)]
theorem bacts_out {t : Rat} {n : Nat} : ∀ (w : List Int) (f : Nat → Rat), NWord n w → ∀ {j : Nat}, n ≤ j → bacts t w f j = f j
  | [], _, _, _, _ => rfl
  | x :: w, f, h, j, hj => by
    have hx := h x (by simp)
    show bacts t w (bact t x f) j = _
    rw [bacts_out w _ (fun y hy => h y (by simp [hy])) hj, bact_out f hx.1 hx.2 hj]
theorem bact_shift {t : Rat} {d : Nat} {x : Int} (f : Nat → Rat) (h0 : x ≠ 0) (k : Nat) : bact t (if x < 0 then x - d else x + d) f (k + d) = bact t x (fun k => f (k + d)) k := by
  have e : (if x < 0 then x - (d : Int) else x + d).natAbs - 1 = (x.natAbs - 1) + d := by split <;> omega
  have e2 : (if x < 0 then x - (d : Int) else x + d) < 0 ↔ x < 0 := by split <;> omega
  unfold bact
  rw [e]
  by_cases hx : x < 0
  · rw [if_pos (e2.2 hx), if_pos hx]
    unfold bactN
    have h1 : (k + d = x.natAbs - 1 + d) = (k = x.natAbs - 1) := propext ⟨fun h => by omega, fun h => by omega⟩
    have h2 : (k + d = x.natAbs - 1 + 1 + d) = (k = x.natAbs - 1 + 1) := propext ⟨fun h => by omega, fun h => by omega⟩
    have h3 : x.natAbs - 1 + d + 1 = x.natAbs - 1 + 1 + d := by omega
    simp only [h1, h2, h3]
  · rw [if_neg (fun h => hx (e2.1 h)), if_neg hx]
    unfold bactP
    have h1 : (k + d = x.natAbs - 1 + d) = (k = x.natAbs - 1) := propext ⟨fun h => by omega, fun h => by omega⟩
    have h2 : (k + d = x.natAbs - 1 + 1 + d) = (k = x.natAbs - 1 + 1) := propext ⟨fun h => by omega, fun h => by omega⟩
    have h3 : x.natAbs - 1 + d + 1 = x.natAbs - 1 + 1 + d := by omega
    simp only [h1, h2, h3]
theorem bact_shlow {t : Rat} {d : Nat} {x : Int} (f : Nat → Rat) (h0 : x ≠ 0) {k : Nat} (hk : k < d) : bact t (if x < 0 then x - d else x + d) f k = f k := by
  have e : (if x < 0 then x - (d : Int) else x + d).natAbs - 1 = (x.natAbs - 1) + d := by split <;> omega
  obtain ⟨y, hy⟩ : ∃ y, (if x < 0 then x - (d : Int) else x + d) = y := ⟨_, rfl⟩
  rw [hy] at e ⊢
  unfold bact bactP bactN
  rw [e]
  split <;> dsimp only <;> rw [if_neg (by omega), if_neg (by omega)]
theorem bacts_shift {t : Rat} {d : Nat} : ∀ (w : List Int) (f : Nat → Rat), (∀ x ∈ w, x ≠ 0) → ∀ k, bacts t (shW d w) f (k + d) = bacts t w (fun k => f (k + d)) k
  | [], _, _, _ => rfl
  | x :: w, f, h, k => by
    show bacts t (shW d w) (bact t (if x < 0 then x - d else x + d) f) (k + d) = bacts t w (bact t x fun k => f (k + d)) k
    rw [bacts_shift w _ (fun y hy => h y (by simp [hy])) k]
    congr 1
    funext k
    exact bact_shift f (h x (by simp)) k
theorem bacts_shlow {t : Rat} {d : Nat} : ∀ (w : List Int) (f : Nat → Rat), (∀ x ∈ w, x ≠ 0) → ∀ {k}, k < d → bacts t (shW d w) f k = f k
  | [], _, _, _, _ => rfl
  | x :: w, f, h, k, hk => by
    show bacts t (shW d w) (bact t (if x < 0 then x - d else x + d) f) k = f k
    rw [bacts_shlow w _ (fun y hy => h y (by simp [hy])) hk]
    exact bact_shlow f (h x (by simp)) hk
theorem NWord.ne {n : Nat} {w : List Int} (h : NWord n w) : ∀ x ∈ w, x ≠ 0 := fun x hx => (h x hx).1
theorem nword_sum {n m d : Nat} {x y : List Int} (hx : NWord n x) (hy : NWord m y) (h : n ≤ m + d) : NWord (m + d) (x ++ shW d y) := by
  intro z hz
  rcases List.mem_append.1 hz with h1 | h1
  · have := hx z h1; exact ⟨this.1, by omega⟩
  · obtain ⟨u, hu, rfl⟩ := List.mem_map.1 h1
    have := hy u hu
    split <;> omega
theorem bacts_zeros {t : Rat} {n : Nat} {x : List Int} (hx : NWord n x) {f : Nat → Rat} (h : ∀ k, k < n → f k = 0) {k : Nat} (hk : k < n) : bacts t x f k = 0 := by
  rw [bacts_congr x f (fun _ => 0) hx h k hk, bacts_zero]
theorem unitV_at (i j : Nat) : unitV i j = if i = j then 1 else 0 := unit_uni i j

/-! ### The matrix of a word behind another one -/
variable {t : Rat} {x y : List Int} {p q d : Nat}
theorem BW_low (_hx : NWord (p + 1) x) (hy : NWord (q + 1) y) {i j : Nat} (hj : j < d) : BW t (x ++ shW d y) i j = BW t x i j := by
  unfold BW
  rw [bacts_append, bacts_shlow y _ hy.ne hj]
theorem BW_far (hx : NWord (p + 1) x) {i j : Nat} (hi : p + 1 ≤ i) (hj : j < p + 1) : BW t x i j = 0 := by
  unfold BW
  exact bacts_zeros hx (fun k hk => by rw [unitV_at, if_neg (by omega)]) hj
theorem BW_high (hx : NWord (p + 1) x) (hy : NWord (q + 1) y) (_hd : d ≤ p + 1) {i j : Nat} (hi : p + 1 ≤ d + i) : BW t (x ++ shW d y) (d + i) (d + j) = BW t y i j := by
  unfold BW
  rw [bacts_append, Nat.add_comm d j, bacts_shift y _ hy.ne]
  congr 1
  funext k
  by_cases hk : k + d < p + 1
  · rw [bacts_zeros hx (fun l hl => by rw [unitV_at, if_neg (by omega)]) hk, unitV_at, if_neg (by omega)]
  · rw [bacts_out x _ hx (by omega), unitV_at, unitV_at]
    by_cases e : i = k
    · rw [if_pos (by omega), if_pos e]
    · rw [if_neg (by omega), if_neg e]
def KW (t : Rat) (w : List Int) (i j : Nat) : Rat := uni i j - BW t w i j
theorem cW_KW (t : Rat) (m : Nat) (w : List Int) : cW t m w = dt m (KW t w) := rfl
theorem KW_rows (ht : t ≠ 0) {n : Nat} {w : List Int} (hw : NWord n w) {i : Nat} (hi : i < n) : sumN (fun j => KW t w i j) n = 0 := by
  have h := BW_rows ht hw hi
  have c : ∀ j, j < n → KW t w i j = 1 * uni i j + (-1) * BW t w i j := fun j _ => by unfold KW; grind
  rw [Go.Det.sumN_congr n c, Go.Det.sumN_lin, h, Go.Det.sumN_one n i hi (fun k _ hk => by unfold uni; rw [if_neg (Ne.symm hk)])]
  unfold uni; simp; grind
theorem KW_cols (ht : t ≠ 0) {n : Nat} {w : List Int} (hw : NWord n w) {j : Nat} (hj : j < n) : sumN (fun i => t ^ i * KW t w i j) n = 0 := by
  have h := BW_cols ht hw hj
  have c : ∀ i, i < n → t ^ i * KW t w i j = 1 * (t ^ i * uni i j) + (-1) * (t ^ i * BW t w i j) := fun i _ => by unfold KW; grind
  rw [Go.Det.sumN_congr n c, Go.Det.sumN_lin, h, sumN_pick' n (fun i => t ^ i) hj]
  grind
theorem cW_sum (ht : t ≠ 0) (hx : NWord (p + 1) x) (hy : NWord (q + 1) y) : cW t (p + q) (x ++ shW p y) = cW t p x * cW t q y := by
  have hz := nword_sum hx hy (d := p) (by omega)
  rw [show q + 1 + p = (p + q) + 1 by omega] at hz
  have hb := dt_block (q + 1) p (upd (KW t (x ++ shW p y)) p (uni p)) fun i j h1 h2 h3 => by
    by_cases e : i = p
    · rw [e, Go.Det.upd_same]; unfold uni; rw [if_neg (by omega)]
    · rw [Go.Det.upd_other _ _ e]
      unfold KW
      rw [BW_low hx hy h3, BW_far hx (by omega) (by omega)]
      unfold uni; rw [if_neg (by omega)]; grind
  have e1 : dt p (upd (KW t (x ++ shW p y)) p (uni p)) = cW t p x := Go.Det.dt_congr fun i j hi hj => by
    rw [Go.Det.upd_other _ _ (by omega)]; unfold KW; rw [BW_low hx hy hj]
  have e2 : dt (q + 1) (fun i j => upd (KW t (x ++ shW p y)) p (uni p) (p + i) (p + j)) = dt (q + 1) (upd (KW t y) 0 (uni 0)) := Go.Det.dt_congr fun i j hi hj => by
    by_cases e : i = 0
    · rw [e, Nat.add_zero, Go.Det.upd_same, Go.Det.upd_same]
      unfold uni
      by_cases h : j = 0
      · rw [if_pos (by omega), if_pos (by omega)]
      · rw [if_neg (by omega), if_neg (by omega)]
    · rw [Go.Det.upd_other _ _ (by omega), Go.Det.upd_other _ _ e]
      unfold KW
      rw [BW_high hx hy (by omega) (by omega)]
      unfold uni
      by_cases h : i = j
      · rw [if_pos (by omega), if_pos h]
      · rw [if_neg (by omega), if_neg h]
  rw [e1, e2] at hb
  have m1 := minor_any (KW t (x ++ shW p y)) (fun i => t ^ i) (r := p) (m := p + q) (n := p + q + 1) (by omega) (by omega) (fun i hi => KW_rows ht hz hi) (fun j hj => KW_cols ht hz hj)
  have m2 := minor_any (KW t y) (fun i => t ^ i) (r := 0) (m := q) (n := q + 1) (by omega) (by omega) (fun i hi => KW_rows ht hy hi) (fun j hj => KW_cols ht hy hj)
  rw [dt_lastunit] at m1 m2
  rw [show p + q + 1 = p + (q + 1) by omega, hb] at m1
  simp only [Rat.pow_zero, Rat.one_mul] at m2
  rw [← cW_KW] at m1 m2
  have hp : t ^ p ≠ 0 := rpow_ne ht p
  refine cancel_mul hp ?_
  rw [← m1, ← m2, rpow_add]
  grind
theorem cW_apart (ht : t ≠ 0) (hx : NWord (p + 1) x) (hy : NWord (q + 1) y) : cW t (p + 1 + q) (x ++ shW (p + 1) y) = 0 := by
  rw [cW_KW, dt_block q (p + 1) _ fun i j h1 h2 h3 => by
    unfold KW
    rw [BW_low hx hy h3, BW_far hx h1 h3]
    unfold uni; rw [if_neg (by omega)]; grind]
  have e1 : dt (p + 1) (KW t (x ++ shW (p + 1) y)) = dt (p + 1) (KW t x) := Go.Det.dt_congr fun i j hi hj => by unfold KW; rw [BW_low hx hy hj]
  rw [e1, dt_rowsum0 _ (by omega) fun i hi => KW_rows ht hx hi, Rat.zero_mul]

/-! ### Polynomials -/
theorem pnorm_mul {a b : LP} (ha : Trimmed a) (hb : Trimmed b) : pnorm (pmul a b) = pmul (pnorm a) (pnorm b) := by
  refine ev_ext (pmul_trimmed _ _) (pmul_trimmed _ _) fun t ht => ?_
  rw [ev_pnorm _ ht, ev_pmul _ _ ht, ev_pnorm _ ht, ev_pnorm _ ht]
  by_cases h1 : a.c = []
  · rw [pmul_nil (.inl h1), h1]; simp [pzero, evL]
  · by_cases h2 : b.c = []
    · rw [pmul_nil (.inr h2), h2]; simp [pzero, evL]
    · have hm := pmul_exact ha hb h1 h2
      have ht1 := top_mull a.c b.c h1 h2
      have hl := mull_length a.c b.c h1 h2
      have p1 := List.length_pos_iff.2 h1
      have p2 := List.length_pos_iff.2 h2
      have la := ha.last h1
      have lb := hb.last h2
      rw [hm]
      show evL (mull a.c b.c) t * _ = _
      rw [evL_mull]
      have hls : lsign ⟨a.low + b.low, mull a.c b.c⟩ = lsign a * lsign b := by
        unfold lsign
        simp only [hl]
        rw [show a.c.length + b.c.length - 1 - 1 = a.c.length - 1 + (b.c.length - 1) by omega, ht1]
        rcases Int.lt_or_gt_of_ne la with l1 | l1 <;> rcases Int.lt_or_gt_of_ne lb with l2 | l2
        · rw [if_pos l1, if_pos l2, if_neg (Int.not_lt.2 (Int.le_of_lt (Int.mul_pos_of_neg_of_neg l1 l2)))]; rfl
        · rw [if_pos l1, if_neg (Int.not_lt.2 (Int.le_of_lt l2)), if_pos (Int.mul_neg_of_neg_of_pos l1 l2)]; rfl
        · rw [if_neg (Int.not_lt.2 (Int.le_of_lt l1)), if_pos l2, if_pos (Int.mul_neg_of_pos_of_neg l1 l2)]; rfl
        · rw [if_neg (Int.not_lt.2 (Int.le_of_lt l1)), if_neg (Int.not_lt.2 (Int.le_of_lt l2)), if_neg (Int.not_lt.2 (Int.le_of_lt (Int.mul_pos l1 l2)))]; rfl
      rw [hls, Rat.intCast_mul]
      grind
theorem alex_sum (hx : NWord (p + 1) x) (hy : NWord (q + 1) y) : pnorm (expandL (p + q) (alexM (p + q + 1) (x ++ shW p y))) = pmul (pnorm (expandL p (alexM (p + 1) x))) (pnorm (expandL q (alexM (q + 1) y))) := by
  have hz := nword_sum hx hy (d := p) (by omega)
  rw [show q + 1 + p = (p + q) + 1 by omega] at hz
  rw [← pnorm_mul (expandL_trimmed _ _) (expandL_trimmed _ _)]
  congr 1
  refine ev_ext (expandL_trimmed _ _) (pmul_trimmed _ _) fun t ht => ?_
  rw [ev_pmul _ _ ht, ev_alex ht hz, ev_alex ht hx, ev_alex ht hy, cW_sum ht hx hy]
theorem alex_apart (hx : NWord (p + 1) x) (hy : NWord (q + 1) y) : pnorm (expandL (p + 1 + q) (alexM (p + 1 + q + 1) (x ++ shW (p + 1) y))) = pzero := by
  have hz := nword_sum hx hy (d := p + 1) (by omega)
  rw [show q + 1 + (p + 1) = (p + 1 + q) + 1 by omega] at hz
  have h : expandL (p + 1 + q) (alexM (p + 1 + q + 1) (x ++ shW (p + 1) y)) = pzero := ev_ext (expandL_trimmed _ _) pzero_trimmed fun t ht => by
    rw [ev_alex ht hz, cW_apart ht hx hy, ev_pzero]
  rw [h]
  refine ev_ext (pmul_trimmed _ _) pzero_trimmed fun t ht => ?_
  rw [ev_pnorm _ ht, ev_pzero]
  simp [pzero, evL]

end Go.Proofs.Ytplekfgadbjgdaa

namespace Go.Proofs.Ytplekfgadbjgdaa
open Go.RowKit Go.Sl

theorem pnorm_n1 (p : LP) : n1 (pnorm p).c ≤ n1 p.c := by
  have h1 := n1_pmul ⟨0, p.c⟩ (pterm (lsign p) 0)
  have h2 := n1_pterm (lsign p) 0
  have h3 : (lsign p).natAbs = 1 := by unfold lsign; split <;> rfl
  rw [h3] at h2
  have h4 := Nat.mul_le_mul_left (n1 p.c) h2
  unfold pnorm
  have h5 : n1 (⟨0, p.c⟩ : LP).c = n1 p.c := rfl
  rw [h5] at h1
  omega
/-- What alexander.Polynomial and alexander.Determinant give for a word of at most 16 letters. -/
structure AFit (n : Nat) (xs : List Int) : Prop where
  pf : ∀ i k, i < n → k < n → PFit (nthp (rowM n xs i) k) ∧ n1 (nthp (rowM n xs i) k).c ≤ 100000000000000
  fit : ExpFit (n - 1) (alexM n xs)
  ok : POk (expandL (n - 1) (alexM n xs))
  ok2 : POk (pnorm (expandL (n - 1) (alexM n xs)))
  at2 : (atR (-1) (pnorm (expandL (n - 1) (alexM n xs))).low (pnorm (expandL (n - 1) (alexM n xs))).c).natAbs ≤ 1000000000000
  at1 : (atR 1 (pnorm (expandL (n - 1) (alexM n xs))).low (pnorm (expandL (n - 1) (alexM n xs))).c).natAbs ≤ 1000000000000
  okc : POk (pconj (pnorm (expandL (n - 1) (alexM n xs))))
theorem afit {n : Nat} {xs : List Int} (hw : NWord n xs) (hl : xs.length ≤ 16) (h2 : 2 ≤ n) (h6 : n ≤ 6) : AFit n xs := by
  obtain ⟨f1, f2, f3, f4, f5⟩ := alex_fit hw hl h2 h6
  have g1 := pnorm_n1 (expandL (n - 1) (alexM n xs))
  have g2 := within_pnorm f5
  have g3 := within_pconj g2
  have g4 := n1_pconj (pnorm (expandL (n - 1) (alexM n xs)))
  exact ⟨f1, f2, f3, POk.of (pmul_trimmed _ _) g2 (by omega) (by omega) (by omega) (by omega) (by omega), Nat.le_trans (atR_le _ _ _) (by omega), Nat.le_trans (atR_le _ _ _) (by omega),
    POk.of (pconj_trimmed _) (g3.mono (lo' := -165) (hi' := 1) (by omega) (by omega)) (by omega) (by omega) (by omega) (by omega) (by omega)⟩
theorem alex_lit : pnorm (expandL (2 - 1) (alexM 2 [1, 1, 1])) = ⟨0, [1, -1, 1]⟩ := by decide +kernel

end Go.Proofs.Ytplekfgadbjgdaa


/- alexandered walked: the statements' fact about Alexander polynomials; what a word of at most 16 letters gives. -/
import Derived.Test.YtckopilciekfbaaQTopTorus0
import Derived.Test.YtckopilciekfbaaQTopTorus1
import Derived.Test.YtckopilciekfbaaQTopTorus2
import Derived.Test.YtckopilciekfbaaQTopTorus3
import Derived.Test.YtckopilciekfbaaQTopTorus4
import Derived.Test.YtckopilciekfbaaQTopTorus5
import Derived.Test.YtckopilciekfbaaQTopTorus6
import Derived.Test.YtckopilciekfbaaQTopTorus7
import Derived.Test.YtckopilciekfbaaQTopTorus9
import Derived.Test.YtckopilciekfbaaQTopTorus10
import Derived.Test.YtckopilciekfbaaQTopTorus11
import Derived.Test.YtckopilciekfbaaQTopTorus12
import Derived.Test.YtckopilciekfbaaQTopTorus13
import Derived.Test.YtckopilciekfbaaQTopTorus14
import Derived.Test.YtckopilciekfbaaQTopTorus15
import Derived.Test.YtckopilciekfbaaQTopTorus18
import Derived.Test.YtckopilciekfbaaQTopTorus19
import Derived.Test.YtckopilciekfbaaQTopTorus20
import Derived.Test.YtckopilciekfbaaQTopTorus21
import Derived.Test.YtckopilciekfbaaQTopTorus22
import Derived.Test.YtckopilciekfbaaQTopTorus26
import Derived.Test.YtckopilciekfbaaQTopTorus31
import Derived.Test.YtckopilciekfbaaQTopTorus36
import Derived.RangeFuncNested
import Derived.RangeFuncBound
import Derived.RangeFuncCalls
import Derived.RangeFuncLeaves
import Derived.RangeFuncBox
import Derived.Shelf.Abstract
import Derived.Shelf.RegionOpen
import Derived.OwnWalkIn
import Derived.TacticsInMore
import Derived.LoopNIn
import Derived.LoopIn
import Derived.Maps.AppendAt
namespace Go.Proofs.Ytckopilciekfbaa
open Go.RowKit Go.Sl

/-- A column: its entries by row. -/
abbrev Col := Nat → LP
def zcol : Col := fun _ => pzero
/-- The determinant of the matrix with these columns. -/
def mnL (k : Nat) (L : List Col) : LP := expandL k (matM k fun i j => (L.getD j zcol) i)
theorem mnL_trimmed (k : Nat) (L : List Col) : Trimmed (mnL k L) := expandL_trimmed _ _
theorem ev_mnL {t : Rat} (ht : t ≠ 0) (k : Nat) (L : List Col) : ev (mnL k L) t = Go.Det.dt k (fun j i => ev ((L.getD j zcol) i) t) := by
  unfold mnL
  rw [ev_expandL ht _ _ (sqM_matM _ _), ← Go.Det.dt_turn]
  refine Go.Det.dt_congr fun i j hi hj => ?_
  unfold evM
  rw [nthp_matM hj hi]
theorem ev_col {t : Rat} (ht : t ≠ 0) {k : Nat} {L1 L2 : List Col} {c : Col} (_hk : L1.length < k) (f : Nat → Rat) (hf : ∀ i, i < k → ev (c i) t = f i) (z : Col) :
    ev (mnL k (L1 ++ c :: L2)) t = Go.Det.dt k (Go.Det.upd (fun j i => ev (((L1 ++ z :: L2).getD j zcol) i) t) L1.length f) := by
  rw [ev_mnL ht]
  refine Go.Det.dt_congr fun j i hj hi => ?_
  unfold Go.Det.upd
  by_cases e : j = L1.length
  · subst e; rw [if_pos rfl]; simp [hf i hi]
  · rw [if_neg e]
    have : (L1 ++ c :: L2).getD j zcol = (L1 ++ z :: L2).getD j zcol := by
      rw [List.getD_eq_getElem?_getD, List.getD_eq_getElem?_getD]
      rcases Nat.lt_or_ge j L1.length with h | h
      · rw [List.getElem?_append_left h, List.getElem?_append_left h]
      · obtain ⟨m, hm⟩ : ∃ m, j - L1.length = m + 1 := ⟨j - L1.length - 1, by omega⟩
        rw [List.getElem?_append_right h, List.getElem?_append_right h, hm]; rfl
    rw [this]
/-- A column that is a sum of multiples of two others. -/
theorem mnL_lin {k : Nat} {L1 L2 : List Col} {c x y : Col} {P Q : LP} (hk : L1.length < k) (hc : ∀ t : Rat, t ≠ 0 → ∀ i, i < k → ev (c i) t = ev P t * ev (x i) t + ev Q t * ev (y i) t) :
    mnL k (L1 ++ c :: L2) = padd (pmul P (mnL k (L1 ++ x :: L2))) (pmul Q (mnL k (L1 ++ y :: L2))) 1 := by
  refine ev_ext (mnL_trimmed _ _) (padd_trimmed _ _ _) fun t ht => ?_
  rw [ev_padd _ _ _ ht, ev_pmul _ _ ht, ev_pmul _ _ ht, ev_col ht hk (fun i => ev P t * ev (x i) t + ev Q t * ev (y i) t) (hc t ht) zcol, ev_col ht hk (fun i => ev (x i) t) (fun _ _ => rfl) zcol,
    ev_col ht hk (fun i => ev (y i) t) (fun _ _ => rfl) zcol, (Go.Det.alt_dt k).lin _ _ _ _ _ _ hk]
  simp
theorem mnL_lin_n1 {k : Nat} {L1 L2 : List Col} {c x y : Col} {P Q : LP} (hk : L1.length < k) (hc : ∀ t : Rat, t ≠ 0 → ∀ i, i < k → ev (c i) t = ev P t * ev (x i) t + ev Q t * ev (y i) t) :
    n1 (mnL k (L1 ++ c :: L2)).c ≤ n1 P.c * n1 (mnL k (L1 ++ x :: L2)).c + n1 Q.c * n1 (mnL k (L1 ++ y :: L2)).c := by
  rw [mnL_lin hk hc]
  refine Nat.le_trans (n1_padd _ _ _) ?_
  have h1 := n1_pmul P (mnL k (L1 ++ x :: L2))
  have h2 := n1_pmul Q (mnL k (L1 ++ y :: L2))
  simp only [Int.natAbs_one, Nat.one_mul]
  omega

theorem ev_two {t : Rat} (ht : t ≠ 0) {k : Nat} {L1 L2 : List Col} {c d : Col} (_hk : L1.length + 1 < k) (f g : Nat → Rat) (hf : ∀ i, i < k → ev (c i) t = f i) (hg : ∀ i, i < k → ev (d i) t = g i) :
    ev (mnL k (L1 ++ c :: d :: L2)) t = Go.Det.dt k (Go.Det.upd (Go.Det.upd (fun j i => ev (((L1 ++ zcol :: zcol :: L2).getD j zcol) i) t) L1.length f) (L1.length + 1) g) := by
  rw [ev_mnL ht]
  refine Go.Det.dt_congr fun j i hj hi => ?_
  unfold Go.Det.upd
  by_cases e : j = L1.length + 1
  · subst e; rw [if_pos rfl]
    have : (L1 ++ c :: d :: L2).getD (L1.length + 1) zcol = d := by rw [List.getD_eq_getElem?_getD, List.getElem?_append_right (by omega)]; simp
    rw [this, hg i hi]
  · rw [if_neg e]
    by_cases e1 : j = L1.length
    · subst e1; rw [if_pos rfl]; simp [hf i hi]
    · rw [if_neg e1]
      have : (L1 ++ c :: d :: L2).getD j zcol = (L1 ++ zcol :: zcol :: L2).getD j zcol := by
        rw [List.getD_eq_getElem?_getD, List.getD_eq_getElem?_getD]
        rcases Nat.lt_or_ge j L1.length with h | h
        · rw [List.getElem?_append_left h, List.getElem?_append_left h]
        · obtain ⟨m, hm⟩ : ∃ m, j - L1.length = m + 2 := ⟨j - L1.length - 2, by omega⟩
          rw [List.getElem?_append_right h, List.getElem?_append_right h, hm]; rfl
      rw [this]
/-- Two neighbouring columns that are combinations of two others. -/
theorem mnL_two {k : Nat} {L1 L2 : List Col} {c d x y : Col} {U : LP} (hk : L1.length + 1 < k) (hc : ∀ t : Rat, t ≠ 0 → ∃ a b p q : Rat, (∀ i, i < k → ev (c i) t = a * ev (x i) t + b * ev (y i) t) ∧ (∀ i, i < k → ev (d i) t = p * ev (x i) t + q * ev (y i) t) ∧ ev U t = a * q - b * p) :
    mnL k (L1 ++ c :: d :: L2) = pmul U (mnL k (L1 ++ x :: y :: L2)) := by
  refine ev_ext (mnL_trimmed _ _) (pmul_trimmed _ _) fun t ht => ?_
  obtain ⟨a, b, p, q, h1, h2, h3⟩ := hc t ht
  rw [ev_pmul _ _ ht, h3, ev_two ht hk _ _ h1 h2, ev_two ht hk (fun i => ev (x i) t) (fun i => ev (y i) t) (fun _ _ => rfl) (fun _ _ => rfl)]
  have alt := Go.Det.alt_dt (R := Rat) k
  obtain ⟨A, hA⟩ : ∃ A : Nat → Nat → Rat, A = fun j i => ev (((L1 ++ zcol :: zcol :: L2).getD j zcol) i) t := ⟨_, rfl⟩
  obtain ⟨X, hX⟩ : ∃ X : Nat → Rat, X = fun i => ev (x i) t := ⟨_, rfl⟩
  obtain ⟨Y, hY⟩ : ∃ Y : Nat → Rat, Y = fun i => ev (y i) t := ⟨_, rfl⟩
  obtain ⟨r, hr⟩ : ∃ r, L1.length = r := ⟨_, rfl⟩
  rw [hr] at hk ⊢
  have e1 : (fun i => a * ev (x i) t + b * ev (y i) t) = fun i => a * X i + b * Y i := by rw [hX, hY]
  have e2 : (fun i => p * ev (x i) t + q * ev (y i) t) = fun i => p * X i + q * Y i := by rw [hX, hY]
  rw [e1, e2, ← hA, ← hX, ← hY]
  have hne : r ≠ r + 1 := by omega
  rw [alt.lin _ (r + 1) p q X Y (by omega), Go.Det.upd_comm _ _ _ hne, alt.lin _ r a b X Y (by omega), Go.Det.upd_comm _ _ _ hne, alt.lin _ r a b X Y (by omega)]
  have z1 : Go.Det.dt k (Go.Det.upd (Go.Det.upd A (r + 1) X) r X) = 0 := alt.zero (p := r) (q := r + 1) (by omega) (by omega) hne _ fun j _ => by simp [Go.Det.upd]
  have z2 : Go.Det.dt k (Go.Det.upd (Go.Det.upd A (r + 1) Y) r Y) = 0 := alt.zero (p := r) (q := r + 1) (by omega) (by omega) hne _ fun j _ => by simp [Go.Det.upd]
  have z3 := alt.swap (p := r + 1) (q := r) (by omega) (by omega) (Ne.symm hne) A X Y
  rw [Go.Det.upd_comm A X Y hne, z1, z2, z3]
  grind

end Go.Proofs.Ytckopilciekfbaa

namespace Go.Proofs.Ytckopilciekfbaa
open Go.RowKit Go.Sl

def selT (f : Nat → Col) : List Bool → Nat → List Col
  | [], _ => []
  | true :: T, b => f b :: selT f T (b + 1)
  | false :: T, b => selT f T (b + 1)
theorem selT_app (f : Nat → Col) (A B : List Bool) : ∀ b, selT f (A ++ B) b = selT f A b ++ selT f B (b + A.length) := by
  induction A with
  | nil => intro b; simp [selT]
  | cons a A ih =>
    intro b
    cases a
    · simp only [List.cons_append, selT, ih, List.length_cons, show b + 1 + A.length = b + (A.length + 1) by omega]
    · simp only [List.cons_append, selT, ih, List.length_cons, show b + 1 + A.length = b + (A.length + 1) by omega]
theorem selT_congr {f g : Nat → Col} (T : List Bool) : ∀ b, (∀ j, b ≤ j → j < b + T.length → f j = g j) → selT f T b = selT g T b := by
  induction T with
  | nil => intro b _; rfl
  | cons a T ih =>
    intro b h
    have h1 := ih (b + 1) fun j h1 h2 => h j (by omega) (by simp; omega)
    cases a
    · exact h1
    · simp only [selT, h1, h b (Nat.le_refl _) (by simp)]
theorem selT_length (f : Nat → Col) (T : List Bool) : ∀ b, (selT f T b).length = T.count true := by
  induction T with
  | nil => intro b; rfl
  | cons a T ih =>
    intro b
    cases a
    · simp [selT, ih]
    · simp [selT, ih]
/-- Column j of the Burau matrix, from row r on. -/
def colW (n : Nat) (w : List Int) (r j : Nat) : Col := fun i => nthp (rowM n w (r + i)) j
theorem rowM_snoc (n : Nat) (w : List Int) (x : Int) (i : Nat) : rowM n (w ++ [x]) i = brow x (rowM n w i) := by unfold rowM; rw [List.foldl_append]; rfl
theorem colW_other {n : Nat} {w : List Int} {x : Int} {r j : Nat} (_hx : x.natAbs < n) (hj : j < n) (h1 : j ≠ x.natAbs - 1) (h2 : j ≠ x.natAbs) : colW n (w ++ [x]) r j = colW n w r j := by
  funext i
  unfold colW
  rw [rowM_snoc]
  unfold brow
  have hl := rowM_length n w (r + i)
  rw [nthp_set (by simp; omega), nthp_set (by omega), if_neg h2, if_neg h1]
theorem ev_colW {t : Rat} (ht : t ≠ 0) {n : Nat} {w : List Int} {x : Int} {r i j : Nat} (hw : NWord n (w ++ [x])) (hj : j < n) : ev (colW n (w ++ [x]) r j i) t = bact t x (fun k => bacts t w (unitV (r + i)) k) j := by
  unfold colW
  rw [ev_rowM ht hw _ _ hj, bacts_append]; rfl
theorem ev_colW0 {t : Rat} (ht : t ≠ 0) {n : Nat} {w : List Int} {r i j : Nat} (hw : NWord n w) (hj : j < n) : ev (colW n w r j i) t = bacts t w (unitV (r + i)) j := by
  unfold colW; exact ev_rowM ht hw _ _ hj

/-- The minor's size, where the number of columns fits. -/
def gW (n k : Nat) (S : List Col) (r : Nat) (w : List Int) (T : List Bool) : Nat := if S.length + T.count true = k then n1 (mnL k (S ++ selT (colW n w r) T 0)).c else 0
theorem gW_blk {n k : Nat} (S : List Col) (r : Nat) {w : List Int} {x : Int} (hw : NWord n (w ++ [x])) : Blk (x.natAbs - 1) n (gW n k S r w) (gW n k S r (w ++ [x])) := by
  intro A B hA hB
  obtain ⟨hx0, hxn⟩ := hw x (by simp)
  have hw0 : NWord n w := fun y hy => hw y (List.mem_append_left _ hy)
  obtain ⟨p, hp⟩ : ∃ p, x.natAbs - 1 = p := ⟨_, rfl⟩
  have hp1 : x.natAbs = p + 1 := by omega
  rw [hp] at hA hB
  have eA : selT (colW n (w ++ [x]) r) A 0 = selT (colW n w r) A 0 := selT_congr A 0 fun j _ h2 => colW_other hxn (by omega) (by omega) (by omega)
  have eB : selT (colW n (w ++ [x]) r) B (p + 2) = selT (colW n w r) B (p + 2) := selT_congr B (p + 2) fun j h1 h2 => colW_other hxn (by omega) (by omega) (by omega)
  obtain ⟨LA, hLA⟩ : ∃ LA, S ++ selT (colW n w r) A 0 = LA := ⟨_, rfl⟩
  obtain ⟨LB, hLB⟩ : ∃ LB, selT (colW n w r) B (p + 2) = LB := ⟨_, rfl⟩
  have hlA : LA.length = S.length + A.count true := by rw [← hLA, List.length_append, selT_length]
  have hlB : LB.length = B.count true := by rw [← hLB, selT_length]
  have sh : ∀ (a b : Bool) (v : List Int), (v = w ∨ v = w ++ [x]) → S ++ selT (colW n v r) (A ++ a :: b :: B) 0 = LA ++ (if a then [colW n v r p] else []) ++ (if b then [colW n v r (p + 1)] else []) ++ LB := by
    intro a b v hv
    have h1 : selT (colW n v r) A 0 = selT (colW n w r) A 0 := by rcases hv with rfl | rfl; rfl; exact eA
    have h2 : selT (colW n v r) B (p + 2) = selT (colW n w r) B (p + 2) := by rcases hv with rfl | rfl; rfl; exact eB
    rw [selT_app, h1, Nat.zero_add, hA, ← hLA, ← hLB, ← h2]
    cases a <;> cases b <;> simp [selT]
  have cn : ∀ a b : Bool, (A ++ a :: b :: B).count true = A.count true + (if a then 1 else 0) + (if b then 1 else 0) + B.count true := by
    intro a b; cases a <;> cases b <;> simp <;> omega
  have hp1n : p + 1 < n := by omega
  unfold gW
  rw [cn, cn, cn, cn, sh _ _ _ (.inl rfl), sh _ _ _ (.inl rfl), sh _ _ _ (.inl rfl), sh _ _ _ (.inl rfl), sh _ _ _ (.inr rfl), sh _ _ _ (.inr rfl), sh _ _ _ (.inr rfl), sh _ _ _ (.inr rfl)]
  simp only [if_true, Bool.false_eq_true, if_false, List.append_nil, Nat.add_zero, List.append_assoc, List.cons_append, List.nil_append]
  obtain ⟨c, hc⟩ : ∃ c, colW n (w ++ [x]) r p = c := ⟨_, rfl⟩
  obtain ⟨d, hd⟩ : ∃ d, colW n (w ++ [x]) r (p + 1) = d := ⟨_, rfl⟩
  obtain ⟨a, ha⟩ : ∃ a, colW n w r p = a := ⟨_, rfl⟩
  obtain ⟨b, hb⟩ : ∃ b, colW n w r (p + 1) = b := ⟨_, rfl⟩
  rw [hc, hd, ha, hb]
  have ea : ∀ t : Rat, t ≠ 0 → ∀ i, ev (a i) t = bacts t w (unitV (r + i)) p := fun t ht i => by rw [← ha]; exact ev_colW0 ht hw0 (by omega)
  have eb : ∀ t : Rat, t ≠ 0 → ∀ i, ev (b i) t = bacts t w (unitV (r + i)) (p + 1) := fun t ht i => by rw [← hb]; exact ev_colW0 ht hw0 hp1n
  have ec : ∀ t : Rat, t ≠ 0 → ∀ i, ev (c i) t = bact t x (fun k => bacts t w (unitV (r + i)) k) p := fun t ht i => by rw [← hc]; exact ev_colW ht hw (by omega)
  have ed : ∀ t : Rat, t ≠ 0 → ∀ i, ev (d i) t = bact t x (fun k => bacts t w (unitV (r + i)) k) (p + 1) := fun t ht i => by rw [← hd]; exact ev_colW ht hw hp1n
  refine ⟨Nat.le_refl _, ?_⟩
  by_cases hneg : x < 0
  · have kc : ∀ t : Rat, t ≠ 0 → ∀ i, ev (c i) t = t⁻¹ * ev (b i) t := fun t ht i => by rw [ec t ht i, eb t ht i]; unfold bact bactN; rw [if_pos hneg, hp, if_pos rfl]; grind
    have kd : ∀ t : Rat, t ≠ 0 → ∀ i, ev (d i) t = ev (a i) t + (1 - t⁻¹) * ev (b i) t := fun t ht i => by rw [ed t ht i, ea t ht i, eb t ht i]; unfold bact bactN; rw [if_pos hneg, hp, if_neg (by omega), if_pos rfl]; grind
    refine ⟨?_, .inr ⟨?_, ?_⟩⟩
    · by_cases hk2 : S.length + (A.count true + 1 + 1 + B.count true) = k
      · rw [if_pos hk2, if_pos hk2]
        rw [mnL_two (U := pterm (-1) (-1)) (x := a) (y := b) (by omega) fun t ht => ⟨0, t⁻¹, 1, 1 - t⁻¹, fun i _ => by rw [kc t ht i]; grind, fun i _ => by rw [kd t ht i]; grind, by rw [ev_pterm _ _ ht, Rat.zpow_neg, Rat.zpow_one]; simp; grind⟩]
        refine Nat.le_trans (n1_pmul _ _) ?_
        have := n1_pterm (-1) (-1)
        exact Nat.le_trans (Nat.mul_le_mul_right _ this) (by simp)
      · rw [if_neg hk2]; exact Nat.zero_le _
    · by_cases hk : S.length + (A.count true + 1 + B.count true) = k
      · rw [if_pos hk, if_pos hk, if_pos hk]
        have := mnL_lin_n1 (k := k) (L1 := LA) (L2 := LB) (c := d) (x := b) (y := a) (P := trimP (-1) [-1, 1]) (Q := pterm 1 0) (by omega) fun t ht i _ => by
          rw [kd t ht i, ev_trimP _ _ ht, ev_pterm _ _ ht, Rat.zpow_neg, Rat.zpow_one, Rat.zpow_zero]; simp [evL]; grind
        have h1 : n1 (trimP (-1) [-1, 1]).c = 2 := by decide
        have h2 : n1 (pterm 1 0).c = 1 := by decide
        rw [h1, h2] at this; omega
      · rw [if_neg hk]; omega
    · by_cases hk : S.length + (A.count true + 1 + B.count true) = k
      · rw [if_pos hk, if_pos hk]
        have := mnL_lin_n1 (k := k) (L1 := LA) (L2 := LB) (c := c) (x := b) (y := a) (P := pterm 1 (-1)) (Q := pzero) (by omega) fun t ht i _ => by
          rw [kc t ht i, ev_pzero, ev_pterm _ _ ht, Rat.zpow_neg, Rat.zpow_one]; simp; grind
        have h1 : n1 (pterm 1 (-1)).c = 1 := by decide
        have h2 : n1 pzero.c = 0 := by decide
        rw [h1, h2] at this; omega
      · rw [if_neg hk]; omega
  · have kc : ∀ t : Rat, t ≠ 0 → ∀ i, ev (c i) t = (1 - t) * ev (a i) t + ev (b i) t := fun t ht i => by rw [ec t ht i, ea t ht i, eb t ht i]; unfold bact bactP; rw [if_neg hneg, hp, if_pos rfl]; grind
    have kd : ∀ t : Rat, t ≠ 0 → ∀ i, ev (d i) t = t * ev (a i) t := fun t ht i => by rw [ed t ht i, ea t ht i]; unfold bact bactP; rw [if_neg hneg, hp, if_neg (by omega), if_pos rfl]; grind
    refine ⟨?_, .inl ⟨?_, ?_⟩⟩
    · by_cases hk2 : S.length + (A.count true + 1 + 1 + B.count true) = k
      · rw [if_pos hk2, if_pos hk2]
        rw [mnL_two (U := pterm (-1) 1) (x := a) (y := b) (by omega) fun t ht => ⟨1 - t, 1, t, 0, fun i _ => by rw [kc t ht i]; grind, fun i _ => by rw [kd t ht i]; grind, by rw [ev_pterm _ _ ht, Rat.zpow_one]; simp; grind⟩]
        refine Nat.le_trans (n1_pmul _ _) ?_
        have := n1_pterm (-1) 1
        exact Nat.le_trans (Nat.mul_le_mul_right _ this) (by simp)
      · rw [if_neg hk2]; exact Nat.zero_le _
    · by_cases hk : S.length + (A.count true + 1 + B.count true) = k
      · rw [if_pos hk, if_pos hk, if_pos hk]
        have := mnL_lin_n1 (k := k) (L1 := LA) (L2 := LB) (c := c) (x := a) (y := b) (P := trimP 0 [1, -1]) (Q := pterm 1 0) (by omega) fun t ht i _ => by
          rw [kc t ht i, ev_trimP _ _ ht, ev_pterm _ _ ht, Rat.zpow_zero]; simp [evL]; grind
        have h1 : n1 (trimP 0 [1, -1]).c = 2 := by decide
        have h2 : n1 (pterm 1 0).c = 1 := by decide
        rw [h1, h2] at this; omega
      · rw [if_neg hk]; omega
    · by_cases hk : S.length + (A.count true + 1 + B.count true) = k
      · rw [if_pos hk, if_pos hk]
        have := mnL_lin_n1 (k := k) (L1 := LA) (L2 := LB) (c := d) (x := a) (y := b) (P := pterm 1 1) (Q := pzero) (by omega) fun t ht i _ => by
          rw [kd t ht i, ev_pzero, ev_pterm _ _ ht, Rat.zpow_one]; simp; grind
        have h1 : n1 (pterm 1 1).c = 1 := by decide
        have h2 : n1 pzero.c = 0 := by decide
        rw [h1, h2] at this; omega
      · rw [if_neg hk]; omega

end Go.Proofs.Ytckopilciekfbaa

namespace Go.Proofs.Ytckopilciekfbaa
open Go.RowKit Go.Sl

def pickU (f : Nat → Nat) : Nat → Nat → Rat := fun j i => if f j = i then 1 else 0
theorem dt_pickU (k : Nat) : ∀ f : Nat → Nat, Go.Det.dt k (pickU f) = 0 ∨ Go.Det.dt k (pickU f) = 1 ∨ Go.Det.dt k (pickU f) = -1 := by
  induction k with
  | zero => intro f; exact .inr (.inl rfl)
  | succ k ih =>
    intro f
    have hd : Go.Det.dt (k + 1) (pickU f) = Go.Det.sumN (fun c => Go.Det.sgN c * pickU f 0 c * Go.Det.dt k (fun i j => pickU f (i + 1) (Go.Det.skp c j))) (k + 1) := rfl
    rw [hd]
    by_cases h : f 0 < k + 1
    · rw [Go.Det.sumN_one (k + 1) (f 0) h fun c _ hc => by
        have : pickU f 0 c = 0 := by unfold pickU; rw [if_neg (fun e => hc e.symm)]
        rw [this]; grind]
      have e0 : pickU f 0 (f 0) = 1 := by unfold pickU; rw [if_pos rfl]
      rw [e0]
      have e1 : Go.Det.dt k (fun i j => pickU f (i + 1) (Go.Det.skp (f 0) j)) = Go.Det.dt k (pickU fun j => if f (j + 1) = f 0 then k else Go.Det.usk (f 0) (f (j + 1))) := by
        refine Go.Det.dt_congr fun i j hi hj => ?_
        unfold pickU
        show (if f (i + 1) = Go.Det.skp (f 0) j then (1 : Rat) else 0) = if (if f (i + 1) = f 0 then k else Go.Det.usk (f 0) (f (i + 1))) = j then 1 else 0
        by_cases e : f (i + 1) = f 0
        · rw [if_pos e, e, if_neg (fun q => Go.Det.skp_ne (f 0) j q.symm), if_neg (by omega)]
        · rw [if_neg e]
          by_cases e2 : f (i + 1) = Go.Det.skp (f 0) j
          · rw [if_pos e2, e2, Go.Det.usk_skp, if_pos rfl]
          · rw [if_neg e2, if_neg (fun q => e2 (by rw [← q, Go.Det.skp_usk e]))]
      rw [e1]
      have hs : (Go.Det.sgN (f 0) : Rat) = 1 ∨ (Go.Det.sgN (f 0) : Rat) = -1 := by unfold Go.Det.sgN; split <;> simp
      rcases ih (fun j => if f (j + 1) = f 0 then k else Go.Det.usk (f 0) (f (j + 1))) with h1 | h1 | h1 <;> rcases hs with h2 | h2 <;> rw [h1, h2] <;> decide +kernel
    · rw [Go.Det.sumN_zero (k + 1) fun c hc => by
        have : pickU f 0 c = 0 := by unfold pickU; rw [if_neg (by omega)]
        rw [this]; grind]
      exact .inl rfl

/-- The unit column c, rows from r on. -/
def ucol (r c : Nat) : Col := fun i => oneP (decide (r + i = c))
theorem ev_ucol {t : Rat} (ht : t ≠ 0) (r c i : Nat) : ev (ucol r c i) t = if r + i = c then 1 else 0 := by
  unfold ucol oneP
  by_cases h : r + i = c
  · rw [decide_eq_true h, if_pos h]; simp only [if_true]; rw [ev_pterm _ _ ht, Rat.zpow_zero]; simp
  · rw [decide_eq_false h, if_neg h]; simp only [Bool.false_eq_true, if_false]; exact ev_pzero t
theorem colW_nil {n r c : Nat} (hc : c < n) : ∀ t : Rat, t ≠ 0 → ∀ i, ev (colW n [] r c i) t = if r + i = c then 1 else 0 := by
  intro t ht i
  rw [ev_colW0 ht (fun x hx => by cases hx) hc]
  show unitV (r + i) c = _
  unfold unitV
  by_cases h : r + i = c
  · rw [if_pos h, if_pos (by omega)]
  · rw [if_neg h, if_neg (by omega)]
/-- Unit columns (in their values): the determinant is 0, 1 or -1. -/
theorem mnL_unit {k r : Nat} {L : List Col} (J : Nat → Nat) (hJ : ∀ j, j < k → ∀ t : Rat, t ≠ 0 → ∀ i, i < k → ev ((L.getD j zcol) i) t = if r + i = J j then 1 else 0) :
    n1 (mnL k L).c ≤ 1 ∧ ((∀ t : Rat, t ≠ 0 → Go.Det.dt k (fun j i => if r + i = J j then (1 : Rat) else 0) = 0) → n1 (mnL k L).c = 0) := by
  obtain ⟨D, hD⟩ : ∃ D : Rat, Go.Det.dt k (fun j i => if r + i = J j then (1 : Rat) else 0) = D := ⟨_, rfl⟩
  have hev : ∀ t : Rat, t ≠ 0 → ev (mnL k L) t = D := fun t ht => by
    rw [ev_mnL ht, ← hD]
    exact Go.Det.dt_congr fun j i hj hi => hJ j hj t ht i hi
  have hp : D = 0 ∨ D = 1 ∨ D = -1 := by
    have e : Go.Det.dt k (fun j i => if r + i = J j then (1 : Rat) else 0) = Go.Det.dt k (pickU fun j => if r ≤ J j then J j - r else k) := by
      refine Go.Det.dt_congr fun j i hj hi => ?_
      unfold pickU
      show (if r + i = J j then (1 : Rat) else 0) = if (if r ≤ J j then J j - r else k) = i then 1 else 0
      by_cases h : r ≤ J j
      · rw [if_pos h]
        by_cases h2 : r + i = J j
        · rw [if_pos h2, if_pos (by omega)]
        · rw [if_neg h2, if_neg (by omega)]
      · rw [if_neg h, if_neg (by omega), if_neg (by omega)]
    rw [← hD, e]; exact dt_pickU _ _
  have key : ∀ c : Int, D = (c : Rat) → mnL k L = pterm c 0 := fun c hc => ev_ext (mnL_trimmed _ _) (pterm_trimmed _ _) fun t ht => by
    rw [hev t ht, ev_pterm _ _ ht, Rat.zpow_zero, hc]; simp
  rcases hp with h | h | h
  · have := key 0 (by rw [h]; rfl)
    rw [this]
    have h1 := n1_pterm 0 0
    exact ⟨by simp at h1; omega, fun _ => by simp at h1; omega⟩
  · have := key 1 (by rw [h]; rfl)
    rw [this]
    have h1 := n1_pterm 1 0
    refine ⟨by simpa using h1, fun hz => ?_⟩
    have := hz 1 (by decide)
    rw [hD, h] at this
    exact absurd this (by decide)
  · have := key (-1) (by rw [h]; rfl)
    rw [this]
    have h1 := n1_pterm (-1) 0
    refine ⟨by simpa using h1, fun hz => ?_⟩
    have := hz 1 (by decide)
    rw [hD, h] at this
    exact absurd this (by decide)

end Go.Proofs.Ytckopilciekfbaa

namespace Go.Proofs.Ytckopilciekfbaa
open Go.RowKit Go.Sl

theorem pig_perm : ∀ (X J : List Nat), X.Nodup → (∀ x ∈ X, x ∈ J) → J.length = X.length → J.Perm X := by
  intro X
  induction X with
  | nil => intro J _ _ hl; rw [List.length_eq_zero_iff.1 hl]
  | cons x X ih =>
    intro J hn hs hl
    have hx := hs x (by simp)
    have h1 := List.perm_cons_erase hx
    refine h1.trans (List.Perm.cons x (ih (J.erase x) (List.nodup_cons.1 hn).2 (fun y hy => ?_) (by rw [List.length_erase_of_mem hx, hl]; simp)))
    have hne : y ≠ x := fun e => (List.nodup_cons.1 hn).1 (e ▸ hy)
    exact (List.mem_erase_of_ne hne).2 (hs y (List.mem_cons_of_mem _ hy))

theorem mnL_swap {k : Nat} {L1 L2 : List Col} {c d : Col} (hk : L1.length + 1 < k) : n1 (mnL k (L1 ++ c :: d :: L2)).c ≤ n1 (mnL k (L1 ++ d :: c :: L2)).c := by
  rw [mnL_two (U := pterm (-1) 0) (x := d) (y := c) hk fun t ht => ⟨0, 1, 1, 0, fun i _ => by grind, fun i _ => by grind, by rw [ev_pterm _ _ ht, Rat.zpow_zero]; simp; grind⟩]
  refine Nat.le_trans (n1_pmul _ _) ?_
  have := n1_pterm (-1) 0
  exact Nat.le_trans (Nat.mul_le_mul_right _ this) (by simp)
theorem mnL_perm {k : Nat} {L L' : List Col} (h : L.Perm L') : ∀ P : List Col, P.length + L.length ≤ k → n1 (mnL k (P ++ L)).c = n1 (mnL k (P ++ L')).c := by
  induction h with
  | nil => intro P _; rfl
  | cons x _ ih =>
    intro P hP
    have := ih (P ++ [x]) (by simp at hP ⊢; omega)
    simpa using this
  | swap x y l =>
    intro P hP
    simp only [List.length_cons] at hP
    exact Nat.le_antisymm (mnL_swap (by omega)) (mnL_swap (by omega))
  | trans h1 h2 ih1 ih2 =>
    intro P hP
    rw [ih1 P hP, ih2 P (by rw [← h1.length_eq]; exact hP)]

/-- A column of I - B. -/
def dcol (n : Nat) (w : List Int) (r j : Nat) : Col := fun i => padd (ucol r j i) (colW n w r j i) (-1)
theorem mnL_dcol {n k r j : Nat} {w : List Int} {L1 L2 : List Col} (hk : L1.length < k) :
    n1 (mnL k (L1 ++ dcol n w r j :: L2)).c ≤ n1 (mnL k (L1 ++ ucol r j :: L2)).c + n1 (mnL k (L1 ++ colW n w r j :: L2)).c := by
  have := mnL_lin_n1 (k := k) (L1 := L1) (L2 := L2) (c := dcol n w r j) (x := ucol r j) (y := colW n w r j) (P := pterm 1 0) (Q := pterm (-1) 0) hk fun t ht i _ => by
    unfold dcol
    rw [ev_padd _ _ _ ht, ev_pterm _ _ ht, ev_pterm _ _ ht, Rat.zpow_zero]; simp
  have h1 : n1 (pterm 1 0).c = 1 := by decide
  have h2 : n1 (pterm (-1) 0).c = 1 := by decide
  rw [h1, h2] at this; omega

theorem selT_of_sorted (n : Nat) : ∀ (C : List Nat) (b : Nat), C.Pairwise (· < ·) → (∀ x ∈ C, b ≤ x ∧ x < b + n) → ∃ T : List Bool, T.length = n ∧ ∀ f : Nat → Col, selT f T b = C.map f := by
  induction n with
  | zero =>
    intro C b _ hC
    cases C with
    | nil => exact ⟨[], rfl, fun f => rfl⟩
    | cons x C => have := hC x (by simp); omega
  | succ n ih =>
    intro C b hs hC
    by_cases hb : ∃ C', C = b :: C'
    · obtain ⟨C', rfl⟩ := hb
      have hp := List.pairwise_cons.1 hs
      obtain ⟨T, hT, hf⟩ := ih C' (b + 1) hp.2 fun x hx => by have := hC x (by simp [hx]); have := hp.1 x hx; omega
      exact ⟨true :: T, by simp [hT], fun f => by simp [selT, hf]⟩
    · obtain ⟨T, hT, hf⟩ := ih C (b + 1) hs fun x hx => by
        have h1 := hC x hx
        by_cases e : x = b
        · exfalso
          subst e
          cases C with
          | nil => cases hx
          | cons y C =>
            have hp := List.pairwise_cons.1 hs
            rcases List.mem_cons.1 hx with e | e
            · exact hb ⟨C, by rw [← e]⟩
            · have := hp.1 x e; have := hC y (by simp); omega
        · omega
      exact ⟨false :: T, by simp [hT], fun f => by simp [selT, hf]⟩

/-- The positions of a selection. -/
def posT : List Bool → Nat → List Nat
  | [], _ => []
  | true :: T, b => b :: posT T (b + 1)
  | false :: T, b => posT T (b + 1)
theorem selT_pos (f : Nat → Col) (T : List Bool) : ∀ b, selT f T b = (posT T b).map f := by
  induction T with
  | nil => intro b; rfl
  | cons a T ih => intro b; cases a <;> simp [selT, posT, ih]
theorem mem_posT (T : List Bool) : ∀ b x, x ∈ posT T b ↔ b ≤ x ∧ T.getD (x - b) false = true := by
  induction T with
  | nil => intro b x; simp [posT]
  | cons a T ih =>
    intro b x
    have key : x ∈ posT T (b + 1) ↔ b + 1 ≤ x ∧ (a :: T).getD (x - b) false = true := by
      rw [ih]
      constructor
      · rintro ⟨h1, h2⟩
        refine ⟨h1, ?_⟩
        rw [show x - b = (x - (b + 1)) + 1 by omega]; simpa using h2
      · rintro ⟨h1, h2⟩
        refine ⟨h1, ?_⟩
        rw [show x - b = (x - (b + 1)) + 1 by omega] at h2; simpa using h2
    cases a
    · simp only [posT, key]
      constructor
      · rintro ⟨h1, h2⟩; exact ⟨by omega, h2⟩
      · rintro ⟨h1, h2⟩
        refine ⟨?_, h2⟩
        by_cases e : x = b
        · subst e; simp at h2
        · omega
    · simp only [posT, List.mem_cons, key]
      constructor
      · rintro (rfl | ⟨h1, h2⟩)
        · exact ⟨Nat.le_refl _, by simp⟩
        · exact ⟨by omega, h2⟩
      · rintro ⟨h1, h2⟩
        by_cases e : x = b
        · exact .inl e
        · exact .inr ⟨by omega, h2⟩
theorem posT_length (T : List Bool) : ∀ b, (posT T b).length = T.count true := by
  induction T with
  | nil => intro b; rfl
  | cons a T ih => intro b; cases a <;> simp [posT, ih]
theorem bools_ext {n : Nat} {T U : List Bool} (hT : T.length = n) (hU : U.length = n) (h : ∀ j, j < n → T.getD j false = U.getD j false) : T = U := by
  refine List.ext_getElem (by rw [hT, hU]) fun j h1 h2 => ?_
  have := h j (by omega)
  rw [List.getD_eq_getElem?_getD, List.getD_eq_getElem?_getD, List.getElem?_eq_getElem h1, List.getElem?_eq_getElem h2] at this
  exact this

/-- Unit columns of which one row is missing. -/
theorem dt_missing {k r : Nat} (J : Nat → Nat) {i0 : Nat} (h0 : i0 < k) (h : ∀ j, j < k → r + i0 ≠ J j) : Go.Det.dt k (fun j i => if r + i = J j then (1 : Rat) else 0) = 0 := by
  rw [← Go.Det.dt_turn]
  obtain ⟨M, hM⟩ : ∃ M : Nat → Nat → Rat, M = fun i j => if r + i = J j then 1 else 0 := ⟨_, rfl⟩
  have h2 := (Go.Det.alt_dt (R := Rat) k).smul M i0 0 (M i0) h0
  rw [Rat.zero_mul] at h2
  have h3 : Go.Det.dt k M = Go.Det.dt k (Go.Det.upd M i0 (fun j => 0 * M i0 j)) := by
    refine Go.Det.dt_congr fun i j hi hj => ?_
    unfold Go.Det.upd
    by_cases e : i = i0
    · rw [if_pos e, e, hM]; simp [h j hj]
    · rw [if_neg e]
  rw [hM] at h3 h2
  rw [h3]; exact h2

/-- Without a letter: at most one choice of columns has a minor that is not zero. -/
theorem gW_start (n k r : Nat) (A : List Nat) : sumB n (fun T => gW n k (A.map (ucol r)) r [] T * gW n k (A.map (ucol r)) r [] T) ≤ 1 := by
  obtain ⟨T0, hT0⟩ : ∃ T0 : List Bool, T0 = (List.range n).map fun j => decide (r ≤ j ∧ j < r + k ∧ j ∉ A) := ⟨_, rfl⟩
  have hl0 : T0.length = n := by rw [hT0]; simp
  have hle : ∀ T : List Bool, T.length = n → gW n k (A.map (ucol r)) r [] T ≤ 1 ∧ (T ≠ T0 → gW n k (A.map (ucol r)) r [] T = 0) := by
    intro T hTn
    unfold gW
    by_cases hc : (A.map (ucol r)).length + T.count true = k
    · rw [if_pos hc]
      rw [List.length_map] at hc
      obtain ⟨J, hJ⟩ : ∃ J, A ++ posT T 0 = J := ⟨_, rfl⟩
      have hJl : J.length = k := by rw [← hJ, List.length_append, posT_length]; exact hc
      have hval : ∀ j, j < k → ∀ t : Rat, t ≠ 0 → ∀ i, i < k → ev (((A.map (ucol r) ++ selT (colW n [] r) T 0).getD j zcol) i) t = if r + i = J.getD j 0 then 1 else 0 := by
        intro j hj t ht i hi
        rw [selT_pos]
        rcases Nat.lt_or_ge j A.length with h | h
        · rw [List.getD_eq_getElem?_getD, List.getElem?_append_left (by simpa using h), ← hJ, List.getD_eq_getElem?_getD, List.getElem?_append_left h, List.getElem?_map, List.getElem?_eq_getElem h]
          exact ev_ucol ht r _ i
        · have hp : j - A.length < (posT T 0).length := by rw [← hJ, List.length_append] at hJl; omega
          rw [List.getD_eq_getElem?_getD, List.getElem?_append_right (by simpa using h), ← hJ, List.getD_eq_getElem?_getD, List.getElem?_append_right h, List.getElem?_map, List.length_map, List.getElem?_eq_getElem hp]
          refine colW_nil ?_ t ht i
          have hm := (mem_posT T 0 _).1 (List.getElem_mem hp)
          rcases Nat.lt_or_ge (posT T 0)[j - A.length] n with h1 | h1
          · exact h1
          · have := hm.2
            rw [List.getD_eq_getElem?_getD, List.getElem?_eq_none (by omega)] at this
            cases this
      obtain ⟨h1, h2⟩ := mnL_unit (fun j => J.getD j 0) hval
      refine ⟨h1, fun hne => h2 fun t ht => ?_⟩
      by_cases hall : ∀ i, i < k → r + i ∈ J
      · exfalso
        apply hne
        have hperm := pig_perm (List.range' r k) J List.nodup_range' (fun x hx => by
          rw [List.mem_range'_1] at hx
          have := hall (x - r) (by omega)
          rwa [show r + (x - r) = x by omega] at this) (by rw [hJl, List.length_range'])
        have hnd : J.Nodup := hperm.nodup_iff.2 List.nodup_range'
        refine bools_ext hTn hl0 fun j hj => ?_
        have hmem : T.getD j false = true ↔ j ∈ posT T 0 := by rw [mem_posT]; simp
        have e0 : T0.getD j false = decide (r ≤ j ∧ j < r + k ∧ j ∉ A) := by rw [hT0, List.getD_eq_getElem?_getD, List.getElem?_map, List.getElem?_range hj]; rfl
        rw [e0, Bool.eq_iff_iff, hmem, decide_eq_true_iff]
        rw [← hJ] at hnd hperm
        constructor
        · intro hp
          have hr := List.mem_range'_1.1 ((hperm.mem_iff).1 (List.mem_append_right _ hp))
          exact ⟨hr.1, hr.2, fun ha => (List.nodup_append.1 hnd).2.2 j ha j hp rfl⟩
        · rintro ⟨h3, h4, h5⟩
          rcases List.mem_append.1 ((hperm.mem_iff).2 (List.mem_range'_1.2 ⟨h3, h4⟩)) with h6 | h6
          · exact absurd h6 h5
          · exact h6
      · have : ∃ i, i < k ∧ r + i ∉ J := Classical.byContradiction fun hn => hall fun i hi => Classical.byContradiction fun hi2 => hn ⟨i, hi, hi2⟩
        obtain ⟨i, hi, hij⟩ := this
        refine dt_missing _ hi fun j hj e => hij ?_
        rw [e, List.getD_eq_getElem?_getD, List.getElem?_eq_getElem (by omega)]
        exact List.getElem_mem _
    · rw [if_neg hc]; exact ⟨Nat.zero_le _, fun _ => rfl⟩
  rw [sumB_one T0 hl0 _ fun T hT hne => by rw [(hle T hT).2 hne]]
  have := (hle T0 hl0).1
  calc _ ≤ 1 * 1 := Nat.mul_le_mul this this
    _ = 1 := rfl

/-- After a word of m letters. -/
theorem gW_sum (n k r : Nat) (A : List Nat) : ∀ (m : Nat) (w : List Int), w.length = m → NWord n w → sumB n (fun T => gW n k (A.map (ucol r)) r w T * gW n k (A.map (ucol r)) r w T) ≤ 6 ^ m := by
  intro m
  induction m with
  | zero => intro w hw _; rw [List.length_eq_zero_iff.1 hw]; exact gW_start n k r A
  | succ m ih =>
    intro w hw hn
    obtain ⟨v, x, rfl⟩ : ∃ v x, w = v ++ [x] := by
      rcases List.eq_nil_or_concat w with h | ⟨v, x, h⟩
      · rw [h] at hw; simp at hw
      · exact ⟨v, x, by simpa using h⟩
    have hx := hn x (by simp)
    have h1 := ih v (by simpa using hw) fun y hy => hn y (List.mem_append_left _ hy)
    have h2 := sumB_blk (x.natAbs - 1) n _ _ (by omega) (gW_blk (k := k) (A.map (ucol r)) r hn)
    rw [Nat.pow_succ]; omega
theorem le_six {a m : Nat} (h : a * a ≤ 6 ^ m) (hm : m ≤ 16) : a ≤ 1679616 := by
  have h1 : 6 ^ m ≤ 6 ^ 16 := Nat.pow_le_pow_right (by decide) hm
  rcases Nat.lt_or_ge 1679616 a with h2 | h2
  · have := Nat.mul_le_mul h2 h2
    have e : (6 : Nat) ^ 16 = 2821109907456 := by decide
    omega
  · exact h2
theorem mn_unit_cols {n k r : Nat} {w : List Int} (hw : NWord n w) (hl : w.length ≤ 16) (A C : List Nat) (hC : C.Pairwise (· < ·)) (hCn : ∀ x ∈ C, x < n) (hk : A.length + C.length = k) :
    n1 (mnL k (A.map (ucol r) ++ C.map (colW n w r))).c ≤ 1679616 := by
  obtain ⟨T, hT, hf⟩ := selT_of_sorted n C 0 hC fun x hx => ⟨Nat.zero_le _, by have := hCn x hx; omega⟩
  have h1 := gW_sum n k r A w.length w rfl hw
  have h2 := le_sumB (fun T => gW n k (A.map (ucol r)) r w T * gW n k (A.map (ucol r)) r w T) T hT
  have h3 := le_six (Nat.le_trans h2 h1) hl
  have e : (A.map (ucol r)).length + T.count true = k := by
    have := congrArg List.length (hf (ucol r))
    rw [selT_length, List.length_map] at this
    rw [List.length_map, this]; exact hk
  unfold gW at h3
  rw [if_pos e, hf] at h3
  exact h3
theorem mn_dcols {n k r : Nat} {w : List Int} (hw : NWord n w) (hl : w.length ≤ 16) : ∀ (J A C : List Nat), (C ++ J).Pairwise (· < ·) → (∀ x ∈ C ++ J, x < n) → A.length + C.length + J.length = k →
    n1 (mnL k (A.map (ucol r) ++ C.map (colW n w r) ++ J.map (dcol n w r))).c ≤ 2 ^ J.length * 1679616 := by
  intro J
  induction J with
  | nil =>
    intro A C hp hn hk
    simp only [List.append_nil, List.map_nil] at hp hn ⊢
    have := mn_unit_cols (r := r) hw hl A C hp hn (by simpa using hk)
    simpa using this
  | cons j J ih =>
    intro A C hp hn hk
    simp only [List.length_cons] at hk
    have h1 := ih (A ++ [j]) C (hp.sublist (List.Sublist.append (List.Sublist.refl _) (List.sublist_cons_self _ _))) (fun x hx => hn x (by rcases List.mem_append.1 hx with h | h; exact List.mem_append_left _ h; exact List.mem_append_right _ (List.mem_cons_of_mem _ h))) (by simp; omega)
    have h2 := ih A (C ++ [j]) (by simpa using hp) (fun x hx => hn x (by simpa using hx)) (by simp; omega)
    have h3 := mnL_dcol (n := n) (w := w) (r := r) (j := j) (k := k) (L1 := A.map (ucol r) ++ C.map (colW n w r)) (L2 := J.map (dcol n w r)) (by simp; omega)
    have e2 : A.map (ucol r) ++ (C ++ [j]).map (colW n w r) ++ J.map (dcol n w r) = A.map (ucol r) ++ C.map (colW n w r) ++ colW n w r j :: J.map (dcol n w r) := by simp
    rw [e2] at h2
    have e1 : n1 (mnL k (A.map (ucol r) ++ C.map (colW n w r) ++ ucol r j :: J.map (dcol n w r))).c = n1 (mnL k ((A ++ [j]).map (ucol r) ++ C.map (colW n w r) ++ J.map (dcol n w r))).c := by
      have hp2 : (A.map (ucol r) ++ C.map (colW n w r) ++ ucol r j :: J.map (dcol n w r)).Perm ((A ++ [j]).map (ucol r) ++ C.map (colW n w r) ++ J.map (dcol n w r)) := by
        rw [List.map_append, List.append_assoc, List.append_assoc, List.append_assoc]
        refine List.Perm.append_left _ ?_
        simp
      exact mnL_perm hp2 [] (by simp; omega)
    rw [List.map_cons, List.length_cons, Nat.pow_succ]
    omega

/-- Rows from r on and the columns J of I - B. -/
def subM (n : Nat) (w : List Int) (r : Nat) (J : List Nat) : List (List LP) := matM J.length fun i l => dcol n w r (J.getD l 0) i
theorem subM_mn (n : Nat) (w : List Int) (r : Nat) (J : List Nat) : expandL J.length (subM n w r J) = mnL J.length (J.map (dcol n w r)) := by
  unfold subM mnL
  congr 1
  unfold matM
  refine List.map_congr_left fun i hi => List.map_congr_left fun l hl => ?_
  have hl := List.mem_range.1 hl
  show dcol n w r (J.getD l 0) i = (List.map (dcol n w r) J).getD l zcol i
  rw [List.getD_eq_getElem?_getD, List.getD_eq_getElem?_getD, List.getElem?_map, List.getElem?_eq_getElem hl]; rfl
theorem dcol_succ (n : Nat) (w : List Int) (r j i : Nat) : dcol n w r j (i + 1) = dcol n w (r + 1) j i := by
  unfold dcol ucol colW
  rw [show r + (i + 1) = r + 1 + i by omega]
theorem subM_rest {n : Nat} {w : List Int} {r c : Nat} {J : List Nat} (hc : c < J.length) : restM c (subM n w r J) = subM n w (r + 1) (J.eraseIdx c) := by
  have hsq := sqM_matM J.length fun i l => dcol n w r (J.getD l 0) i
  have hlen : (J.eraseIdx c).length = J.length - 1 := List.length_eraseIdx_of_lt hc
  refine List.ext_getElem (by rw [restM_length]; simp [subM, matM, hlen]) fun i h1 h2 => ?_
  rw [restM_length] at h1
  have hil : i < J.length - 1 := by simpa [subM, matM] using h1
  have hi1 : i + 1 < (subM n w r J).length := by simp [subM, matM]; omega
  rw [← nthm_lt (by rw [restM_length]; simpa [subM, matM] using hil), ← nthm_lt h2, nthm_restM hi1]
  unfold subM
  rw [nthm_matM (by omega), nthm_matM (by omega)]
  refine List.ext_getElem (by rw [cutR_length (by simpa using hc)]; simp [hlen]) fun l h3 h4 => ?_
  have hl4 : l < J.length - 1 := by simpa [hlen] using h4
  have hskp : Go.Det.skp c l < J.length := by unfold Go.Det.skp; split <;> omega
  rw [← nthp_lt h3, nthp_cutR (by simpa using hc) (by simpa using hl4), nthp_lt (by simpa using hskp)]
  simp only [List.getElem_map, List.getElem_range]
  rw [dcol_succ]
  congr 1
  rw [List.getD_eq_getElem?_getD, List.getD_eq_getElem?_getD, List.getElem?_eraseIdx]
  unfold Go.Det.skp
  split <;> rfl
theorem range_dcol (n : Nat) (w : List Int) : alexM n w = subM n w 0 (List.range (n - 1)) := by
  unfold alexM subM matM alexR
  rw [List.length_range]
  refine List.map_congr_left fun i hi => List.map_congr_left fun k hk => ?_
  have hk := List.mem_range.1 hk
  show _ = dcol n w 0 ((List.range (n - 1)).getD k 0) i
  rw [List.getD_eq_getElem?_getD, List.getElem?_range hk]
  unfold dcol ucol colW
  simp

theorem n1_entry {n : Nat} {w : List Int} (hw : NWord n w) (hl : w.length ≤ 16) {i j : Nat} (hj : j < n) : n1 (nthp (rowM n w i) j).c ≤ 1679616 := by
  have h1 := mn_unit_cols (r := i) hw hl [] [j] (by simp) (by simpa using hj) (k := 1) rfl
  have e : mnL 1 (([] : List Nat).map (ucol i) ++ [j].map (colW n w i)) = nthp (rowM n w i) j := by
    refine ev_ext (mnL_trimmed _ _) (trimmed_rowM hw i j hj) fun t ht => ?_
    rw [ev_mnL ht]
    simp only [Go.Det.dt, Go.Det.sumN, Go.Det.sgN, List.map_nil, List.map_cons, List.nil_append]
    unfold colW
    simp; grind
  rwa [e] at h1
theorem within_entry {n : Nat} {w : List Int} (hw : NWord n w) (hl : w.length ≤ 16) {r i j : Nat} (hj : j < n) : Within (dcol n w r j i) (-16) 17 := by
  refine within_padd ?_ ?_ _
  · unfold ucol oneP
    split
    · exact (within_pterm 1 0).mono (by omega) (by omega)
    · exact within_pzero _ _
  · unfold colW
    exact (pb_rowM hw (r + i) hj).wi.mono (by omega) (by omega)
theorem n1_dcol {n : Nat} {w : List Int} (hw : NWord n w) (hl : w.length ≤ 16) {r i j : Nat} (hj : j < n) : n1 (dcol n w r j i).c ≤ 1679617 := by
  have h1 := n1_padd (ucol r j i) (colW n w r j i) (-1)
  have h2 := n1_entry hw hl (i := r + i) hj
  have h3 : n1 (ucol r j i).c ≤ 1 := by
    unfold ucol oneP
    split
    · exact n1_pterm 1 0
    · simp [pzero, n1]
  unfold dcol
  unfold colW at h1 ⊢
  simp at h1; omega

theorem within_expTo {f : Nat → LP} {lo hi : Int} (c : Nat) (h : ∀ k, k < c → Within (f k) lo hi) : Within (expTo f c) lo hi := by
  induction c with
  | zero => exact within_pzero _ _
  | succ c ih => exact within_padd (ih fun k hk => h k (by omega)) (h c (by omega)) _
theorem n1_expTo {f : Nat → LP} {M : Nat} (c : Nat) (h : ∀ k, k < c → n1 (f k).c ≤ M) : n1 (expTo f c).c ≤ c * M := by
  induction c with
  | zero => simp [expTo, pzero, n1]
  | succ c ih =>
    have h1 := n1_padd (expTo f c) (f c) (if c % 2 = 0 then 1 else -1)
    have h2 := ih fun k hk => h k (by omega)
    have h3 := h c (by omega)
    have h4 : (if c % 2 = 0 then (1 : Int) else -1).natAbs = 1 := by split <;> rfl
    rw [h4] at h1
    rw [expTo, Nat.add_mul]; omega
theorem pfit_tr {p : LP} (ht : Trimmed p) {lo hi : Int} (h : Within p lo hi) (h1 : -1000 ≤ lo) (h2 : hi ≤ 1000) : PFit p := by
  rcases h with h | h
  · exact ⟨by rw [ht.zero h]; decide, by rw [h]; simp⟩
  · by_cases e : p.c = []
    · exact ⟨by rw [ht.zero e]; decide, by rw [e]; simp⟩
    · have := List.length_pos_iff.2 e
      exact ⟨by omega, by omega⟩
theorem subM_fit {n : Nat} {w : List Int} (hw : NWord n w) (hl : w.length ≤ 16) : ∀ (k r : Nat) (J : List Nat), J.length = k → k ≤ 5 → J.Pairwise (· < ·) → (∀ x ∈ J, x < n) →
    ExpFit k (subM n w r J) ∧ Within (expandL k (subM n w r J)) (-(16 * (k : Int))) (16 * (k : Int) + 1) ∧ n1 (expandL k (subM n w r J)).c ≤ 2 ^ k * 1679616 := by
  intro k
  induction k with
  | zero =>
    intro r J hJ _ _ _
    refine ⟨trivial, (within_pterm 1 0).mono (by omega) (by omega), ?_⟩
    exact Nat.le_trans (n1_pterm 1 0) (by decide)
  | succ k ih =>
    intro r J hJ hk hp hn
    have hsq : SqM (k + 1) (subM n w r J) := by rw [← hJ]; exact sqM_matM _ _
    have hent : ∀ i j, i < k + 1 → j < k + 1 → nthp (nthm (subM n w r J) i) j = dcol n w r (J.getD j 0) i := fun i j hi hj => by
      unfold subM; rw [nthp_matM (by omega) (by omega)]
    have hJn : ∀ j, j < k + 1 → J.getD j 0 < n := fun j hj => by
      rw [List.getD_eq_getElem?_getD, List.getElem?_eq_getElem (by omega)]
      exact hn _ (List.getElem_mem _)
    have hsub : ∀ c, c < k + 1 → _ := fun c hc => ih (r + 1) (J.eraseIdx c) (by rw [List.length_eraseIdx_of_lt (by omega)]; omega) (by omega) (hp.sublist (List.eraseIdx_sublist _ _)) (fun x hx => hn x (List.mem_of_mem_eraseIdx hx))
    have hrest : ∀ c, c < k + 1 → restM c (subM n w r J) = subM n w (r + 1) (J.eraseIdx c) := fun c hc => subM_rest (by omega)
    have hpw : 2 ^ k ≤ 16 := Nat.le_trans (Nat.pow_le_pow_right (by decide) (show k ≤ 4 by omega)) (by decide)
    have hw0 : ∀ c, c < k + 1 → Within (nthp (nthm (subM n w r J) 0) c) (-16) 17 := fun c hc => by rw [hent 0 c (by omega) hc]; exact within_entry hw hl (hJn c hc)
    have hn0 : ∀ c, c < k + 1 → n1 (nthp (nthm (subM n w r J) 0) c).c ≤ 1679617 := fun c hc => by rw [hent 0 c (by omega) hc]; exact n1_dcol hw hl (hJn c hc)
    have ht0 : ∀ c, c < k + 1 → Trimmed (nthp (nthm (subM n w r J) 0) c) := fun c hc => by rw [hent 0 c (by omega) hc]; exact padd_trimmed _ _ _
    have hwp : ∀ c, c < k + 1 → Within (pmul (nthp (nthm (subM n w r J) 0) c) (expandL k (restM c (subM n w r J)))) (-(16 * ((k + 1 : Nat) : Int))) (16 * ((k + 1 : Nat) : Int) + 1) := fun c hc => by
      have := (hsub c hc).2.1
      rw [hrest c hc]
      exact (within_pmul (hw0 c hc) this).mono (by omega) (by omega)
    have hnr : ∀ c, c < k + 1 → n1 (expandL k (restM c (subM n w r J))).c ≤ 26873856 := fun c hc => by
      have := (hsub c hc).2.2
      rw [hrest c hc]
      have := Nat.mul_le_mul_right 1679616 hpw
      omega
    have hprod : ∀ c, c < k + 1 → n1 (nthp (nthm (subM n w r J) 0) c).c * n1 (expandL k (restM c (subM n w r J))).c ≤ 1679617 * 26873856 := fun c hc => Nat.mul_le_mul (hn0 c hc) (hnr c hc)
    have hnp : ∀ c, c < k + 1 → n1 (pmul (nthp (nthm (subM n w r J) 0) c) (expandL k (restM c (subM n w r J)))).c ≤ 1679617 * 26873856 := fun c hc => Nat.le_trans (n1_pmul _ _) (hprod c hc)
    refine ⟨fun c hc => ⟨pfit_tr (ht0 c hc) (hw0 c hc) (by omega) (by omega), ?_, Nat.le_trans (hprod c hc) (by decide), ?_, ?_, ?_, ?_⟩, ?_, ?_⟩
    · have := (hsub c hc).2.1
      rw [hrest c hc]
      exact pfit_tr (expandL_trimmed _ _) this (by omega) (by omega)
    · exact pfit_tr (expTo_trimmed _ _) (within_expTo c fun j hj => hwp j (by omega)) (by omega) (by omega)
    · exact pfit_tr (pmul_trimmed _ _) (hwp c hc) (by omega) (by omega)
    · have h1 := n1_expTo c fun j hj => hnp j (show j < k + 1 by omega)
      have h2 := hnp c hc
      have h3 : c * (1679617 * 26873856) ≤ 5 * (1679617 * 26873856) := Nat.mul_le_mul_right _ (by omega)
      omega
    · rw [hrest c hc]; exact (hsub c hc).1
    · exact within_expTo _ fun j hj => hwp j hj
    · rw [← hJ, subM_mn]
      have := mn_dcols (r := r) (k := J.length) hw hl J [] [] (by simpa using hp) (by simpa using hn) (by simp)
      simpa using this
/-- All that alexander.Polynomial asks for. -/
theorem alex_fit {n : Nat} {w : List Int} (hw : NWord n w) (hl : w.length ≤ 16) (h2 : 2 ≤ n) (h6 : n ≤ 6) :
    (∀ i k, i < n → k < n → PFit (nthp (rowM n w i) k) ∧ n1 (nthp (rowM n w i) k).c ≤ 100000000000000) ∧ ExpFit (n - 1) (alexM n w) ∧ POk (expandL (n - 1) (alexM n w)) ∧ n1 (expandL (n - 1) (alexM n w)).c ≤ 60000000 ∧
    Within (expandL (n - 1) (alexM n w)) (-80) 81 := by
  obtain ⟨h3, h4, h5⟩ := subM_fit hw hl (n - 1) 0 (List.range (n - 1)) (by simp) (by omega) List.pairwise_lt_range fun x hx => by have := List.mem_range.1 hx; omega
  rw [range_dcol]
  have hp : 2 ^ (n - 1) ≤ 32 := Nat.le_trans (Nat.pow_le_pow_right (by decide) (show n - 1 ≤ 5 by omega)) (by decide)
  have h6 := Nat.mul_le_mul_right 1679616 hp
  have hwi := h4.mono (lo' := -80) (hi' := 81) (by omega) (by omega)
  refine ⟨fun i k hi hk => ⟨pfit_tr (trimmed_rowM hw i k hk) (pb_rowM hw i hk).wi (by omega) (by omega), Nat.le_trans (n1_entry hw hl hk) (by decide)⟩, h3, POk.of (expandL_trimmed _ _) hwi (by omega) (by omega) (by omega) (by omega) (by omega), by omega, hwi⟩

end Go.Proofs.Ytckopilciekfbaa

namespace Go.Proofs.Ytckopilciekfbaa
open Go.RowKit Go.Sl

theorem pnorm_n1 (p : LP) : n1 (pnorm p).c ≤ n1 p.c := by
  have h1 := n1_pmul ⟨0, p.c⟩ (pterm (lsign p) 0)
  have h2 := n1_pterm (lsign p) 0
  have h3 : (lsign p).natAbs = 1 := by unfold lsign; split <;> rfl
  rw [h3] at h2
  have h4 := Nat.mul_le_mul_left (n1 p.c) h2
  unfold pnorm
  have h5 : n1 (⟨0, p.c⟩ : LP).c = n1 p.c := rfl
  rw [h5] at h1
  omega
/-- What alexander.Polynomial and alexander.Determinant give for a word of at most 16 letters. -/
structure AFit (n : Nat) (xs : List Int) : Prop where
  pf : ∀ i k, i < n → k < n → PFit (nthp (rowM n xs i) k) ∧ n1 (nthp (rowM n xs i) k).c ≤ 100000000000000
  fit : ExpFit (n - 1) (alexM n xs)
  ok : POk (expandL (n - 1) (alexM n xs))
  ok2 : POk (pnorm (expandL (n - 1) (alexM n xs)))
  at2 : (atR (-1) (pnorm (expandL (n - 1) (alexM n xs))).low (pnorm (expandL (n - 1) (alexM n xs))).c).natAbs ≤ 1000000000000
  at1 : (atR 1 (pnorm (expandL (n - 1) (alexM n xs))).low (pnorm (expandL (n - 1) (alexM n xs))).c).natAbs ≤ 1000000000000
  okc : POk (pconj (pnorm (expandL (n - 1) (alexM n xs))))
theorem afit {n : Nat} {xs : List Int} (hw : NWord n xs) (hl : xs.length ≤ 16) (h2 : 2 ≤ n) (h6 : n ≤ 6) : AFit n xs := by
  obtain ⟨f1, f2, f3, f4, f5⟩ := alex_fit hw hl h2 h6
  have g1 := pnorm_n1 (expandL (n - 1) (alexM n xs))
  have g2 := within_pnorm f5
  have g3 := within_pconj g2
  have g4 := n1_pconj (pnorm (expandL (n - 1) (alexM n xs)))
  exact ⟨f1, f2, f3, POk.of (pmul_trimmed _ _) g2 (by omega) (by omega) (by omega) (by omega) (by omega), Nat.le_trans (atR_le _ _ _) (by omega), Nat.le_trans (atR_le _ _ _) (by omega),
    POk.of (pconj_trimmed _) (g3.mono (lo' := -165) (hi' := 1) (by omega) (by omega)) (by omega) (by omega) (by omega) (by omega) (by omega)⟩
theorem alex_lit : pnorm (expandL (2 - 1) (alexM 2 [1, 1, 1])) = ⟨0, [1, -1, 1]⟩ := by decide +kernel

end Go.Proofs.Ytckopilciekfbaa


/- Linking numbers: plain law. -/
import Derived.Test.YtckopilciekfbaaQTopTorus0
import Derived.Test.YtckopilciekfbaaQTopTorus1
import Derived.Test.YtckopilciekfbaaQTopTorus2
import Derived.Test.YtckopilciekfbaaQTopTorus3
import Derived.Test.YtckopilciekfbaaQTopTorus4
import Derived.Test.YtckopilciekfbaaQTopTorus5
import Derived.Test.YtckopilciekfbaaQTopTorus6
import Derived.Test.YtckopilciekfbaaQTopTorus7
import Derived.Test.YtckopilciekfbaaQTopTorus9
import Derived.Test.YtckopilciekfbaaQTopTorus10
import Derived.Test.YtckopilciekfbaaQTopTorus11
import Derived.Test.YtckopilciekfbaaQTopTorus12
import Derived.Test.YtckopilciekfbaaQTopTorus13
import Derived.Test.YtckopilciekfbaaQTopTorus14
import Derived.Test.YtckopilciekfbaaQTopTorus15
import Derived.Test.YtckopilciekfbaaQTopTorus16
import Derived.Test.YtckopilciekfbaaQTopTorus18
import Derived.Test.YtckopilciekfbaaQTopTorus19
import Derived.Test.YtckopilciekfbaaQTopTorus20
import Derived.Test.YtckopilciekfbaaQTopTorus22
import Derived.Test.YtckopilciekfbaaQTopTorus23
import Derived.Test.YtckopilciekfbaaQTopTorus24
import Derived.Test.YtckopilciekfbaaQTopTorus25
import Derived.Test.YtckopilciekfbaaQTopTorus27
import Derived.Test.YtckopilciekfbaaQTopTorus28
import Derived.Test.YtckopilciekfbaaQTopTorus29
import Derived.Test.YtckopilciekfbaaQTopTorus30
import Derived.Test.YtckopilciekfbaaQTopTorus31
import Derived.Test.YtckopilciekfbaaQTopTorus32
import Derived.Test.YtckopilciekfbaaQTopTorus33
import Derived.Test.YtckopilciekfbaaQTopTorus34
import Derived.Test.YtckopilciekfbaaQTopTorus35
import Derived.Test.YtckopilciekfbaaQTopTorus37
import Derived.Test.YtckopilciekfbaaQTopTorus39
import Derived.Test.YtckopilciekfbaaQTopTorus40
import Derived.Test.YtckopilciekfbaaQTopTorus41
import Derived.Test.YtckopilciekfbaaQTopTorus42
import Derived.RangeFuncNested
import Derived.RangeFuncBound
import Derived.RangeFuncCalls
import Derived.RangeFuncLeaves
import Derived.RangeFuncBox
import Derived.Shelf.Abstract
import Derived.Shelf.RegionOpen
import Derived.OwnWalkIn
import Derived.TacticsInMore
import Derived.LoopNIn
import Derived.LoopIn
import Derived.Maps.AppendAt
import Derived.OrdersIn
import Derived.OrdersHeld
import Derived.Deep.RegionHeld
namespace Go.Proofs.Ytckopilciekfbaa
open Go.TL

section
variable {P : List Nat} {N Tr : Nat} {t : Rat}
theorem wordJ_cons (x : Int) (xs : List Int) (f : Nat → Rat) : wordJ P N t (x :: xs) f = wordJ P N t xs (stepJ P N t x f) := rfl
end
end Go.Proofs.Ytckopilciekfbaa

namespace Go.Proofs.Ytckopilciekfbaa
open Go.RowKit Go.Sl Go.Mp Go.TL

/-- The polynomial that the function computes is the one with its values. -/
theorem jones_eq {n N : Nat} {S : List (List Nat)} {P : List Nat} {Tr : Nat} (H : MJ n N S P Tr) (h1 : 1 ≤ n) (h6 : n ≤ 6) (wv : Value) (xs : List Int) (w : World) (hw : Ints w wv xs) (hx : NWord n xs) (hl : xs.length ≤ 12) (q : LP) (hq : Trimmed q) (hv : ∀ t : Rat, t ≠ 0 → ev q t = jonesV P N Tr t xs) :
    Calls Try.prog 37 #[.int .i64 n, wv] w fun e w' => ∃ s, e = .returned (.tuple #[.agg #[.int .i64 q.low, s], .int .i64 0]) ∧ OwnI w' w.heap.size s q.c ∧ Below w.heap.size w w' := by
  refine (jones_calls H h1 h6 wv xs w hw hx hl).mono ?_
  rintro e w' ⟨p, s, rfl, hs, htr, _, _, hp, hb⟩
  obtain rfl : p = q := ev_ext htr hq fun t ht => by rw [hp t ht, hv t ht]
  exact ⟨s, rfl, hs, hb⟩
theorem tr_lit {lo : Int} {c : List Int} (h0 : c ≠ []) (h1 : nth c 0 ≠ 0) (h2 : nth c (c.length - 1) ≠ 0) : Trimmed ⟨lo, c⟩ := ⟨fun h => absurd h h0, fun _ => h1, fun _ => h2⟩
end Go.Proofs.Ytckopilciekfbaa

namespace Go.Proofs.Ytckopilciekfbaa
open Go.RowKit Go.Sl

/-- The sign of a letter. -/
def sgx (x : Int) : Int := x.tdiv x.natAbs
theorem sgx_cases {x : Int} (h : x ≠ 0) : sgx x = 1 ∧ 0 < x ∨ sgx x = -1 ∧ x < 0 := by
  unfold sgx
  rcases Int.lt_or_gt_of_ne h with h1 | h1
  · right
    refine ⟨?_, h1⟩
    rw [show (x.natAbs : Int) = -x by omega, Int.tdiv_neg, Int.tdiv_self (by omega)]
  · left
    refine ⟨?_, h1⟩
    rw [show (x.natAbs : Int) = x by omega, Int.tdiv_self (by omega)]

def bump (F : Nat → Nat → Int) (a b : Nat) (s : Int) : Nat → Nat → Int := fun u v => F u v + (if u = a ∧ v = b then s else 0) + (if a ≠ b ∧ u = b ∧ v = a then s else 0)
/-- The label at a position. -/
def lbl (lab : Nat → Nat) (S : List Int) (i : Nat) : Nat := lab (nth S i).toNat
/-- The counts of crossings, and the strands at the positions. -/
def lkStep (lab : Nat → Nat) (q : (Nat → Nat → Int) × List Int) (x : Int) : (Nat → Nat → Int) × List Int :=
  (bump q.1 (lbl lab q.2 (x.natAbs - 1)) (lbl lab q.2 x.natAbs) (sgx x), swS q.2 x)
def lkRun (lab : Nat → Nat) (n : Nat) (xs : List Int) : (Nat → Nat → Int) × List Int := xs.foldl (lkStep lab) (fun _ _ => 0, iota n)
theorem lkRun_snoc (lab : Nat → Nat) (n : Nat) (xs : List Int) (x : Int) : lkRun lab n (xs ++ [x]) = lkStep lab (lkRun lab n xs) x := by unfold lkRun; rw [List.foldl_append]; rfl
theorem lkRun_strands (lab : Nat → Nat) (n : Nat) (xs : List Int) : (lkRun lab n xs).2 = strandsL n xs := by
  obtain ⟨ys, hy⟩ : ∃ ys, ys = xs.reverse := ⟨_, rfl⟩
  obtain rfl : xs = ys.reverse := by rw [hy, List.reverse_reverse]
  clear hy
  induction ys with
  | nil => rfl
  | cons y ys ih => rw [List.reverse_cons, lkRun_snoc, strandsL_snoc, ← ih]; rfl

/-- The inversions of two labels. -/
def ii (u v : Nat) : List Nat → Int → Int
  | [], _ => 0
  | l :: ls, c => (if l = u then c else 0) + ii u v ls (if l = v then c + 1 else c)
theorem ii_app (u v : Nat) (a b : List Nat) (c : Int) : ii u v (a ++ b) c = ii u v a c + ii u v b (c + (a.count v : Nat)) := by
  induction a generalizing c with
  | nil => simp [ii]
  | cons l a ih =>
    rw [List.cons_append, ii, ii, ih, List.count_cons]
    by_cases e : l = v
    · subst e; simp only [if_true, beq_self_eq_true]; rw [show c + 1 + (List.count l a : Nat) = c + ((List.count l a + 1 : Nat) : Int) by omega]; omega
    · rw [if_neg e]
      have : (l == v) = false := by simp [e]
      simp only [this, Bool.false_eq_true, if_false, Nat.add_zero]; omega
theorem ii_swap {u v : Nat} (huv : u ≠ v) (pre post : List Nat) (x y : Nat) (c : Int) :
    (ii u v (pre ++ y :: x :: post) c - ii u v (pre ++ x :: y :: post) c) = (if x = u ∧ y = v then 1 else 0) - (if x = v ∧ y = u then 1 else 0) := by
  rw [ii_app, ii_app]
  obtain ⟨d, hd⟩ : ∃ d : Int, d = c + (pre.count v : Nat) := ⟨_, rfl⟩
  rw [← hd]
  simp only [ii]
  by_cases h1 : x = u <;> by_cases h2 : x = v <;> by_cases h3 : y = u <;> by_cases h4 : y = v <;> (try (exfalso; omega)) <;> simp [h1, h2, h3, h4, huv, Ne.symm huv] <;> omega
def labs (lab : Nat → Nat) (S : List Int) : List Nat := S.map fun x => lab x.toNat
theorem split2 {α : Type} : ∀ (X : List α) (i : Nat) (hi : i + 1 < X.length), X = X.take i ++ X[i] :: X[i + 1] :: X.drop (i + 2) ∧ (X.set i X[i + 1]).set (i + 1) X[i] = X.take i ++ X[i + 1] :: X[i] :: X.drop (i + 2)
  | a :: b :: X, 0, _ => by simp
  | a :: X, i + 1, hi => by
    have h := split2 X i (by simpa using hi)
    refine ⟨?_, ?_⟩
    · have := h.1
      simp only [List.take_succ_cons, List.getElem_cons_succ, List.cons_append, List.drop_succ_cons]
      congr 1
    · have := h.2
      simp only [List.take_succ_cons, List.getElem_cons_succ, List.cons_append, List.drop_succ_cons, List.set_cons_succ]
      congr 1
theorem labs_swS {lab : Nat → Nat} {S : List Int} {x : Int} (h0 : x ≠ 0) (hx : x.natAbs < S.length) : ∃ pre post, labs lab S = pre ++ lbl lab S (x.natAbs - 1) :: lbl lab S x.natAbs :: post ∧ labs lab (swS S x) = pre ++ lbl lab S x.natAbs :: lbl lab S (x.natAbs - 1) :: post := by
  obtain ⟨i, hi⟩ : ∃ i, x.natAbs = i + 1 := ⟨x.natAbs - 1, by omega⟩
  rw [hi] at hx
  obtain ⟨h1, h2⟩ := split2 S i hx
  refine ⟨(S.take i).map fun x => lab x.toNat, (S.drop (i + 2)).map fun x => lab x.toNat, ?_, ?_⟩
  · unfold lbl labs
    rw [hi, Nat.add_sub_cancel, nth_lt (show i < S.length by omega), nth_lt hx]
    exact (congrArg (List.map fun x : Int => lab x.toNat) h1).trans (by rw [List.map_append, List.map_cons, List.map_cons])
  · unfold lbl labs swS
    rw [hi, Nat.add_sub_cancel, nth_lt (show i < S.length by omega), nth_lt hx, h2, List.map_append, List.map_cons, List.map_cons]

/-- Sums over the pairs of labels below N. -/
def sum2 (N : Nat) (f : Nat → Nat → Int) : Int := ((List.range N).map fun u => ((List.range N).map fun v => f u v).sum).sum
theorem sumR_succ (n : Nat) (f : Nat → Int) : ((List.range (n + 1)).map f).sum = ((List.range n).map f).sum + f n := by simp [List.range_succ]
theorem sumR_add (n : Nat) (f g : Nat → Int) : ((List.range n).map fun u => f u + g u).sum = ((List.range n).map f).sum + ((List.range n).map g).sum := by
  induction n with
  | zero => rfl
  | succ n ih => rw [sumR_succ, sumR_succ, sumR_succ, ih]; omega
theorem sumR_zero (n : Nat) : ((List.range n).map fun _ => (0 : Int)).sum = 0 := by
  induction n with
  | zero => rfl
  | succ n ih => rw [sumR_succ, ih]; rfl
theorem sumR_congr {n : Nat} {f g : Nat → Int} (h : ∀ u, u < n → f u = g u) : ((List.range n).map f).sum = ((List.range n).map g).sum := by
  induction n with
  | zero => rfl
  | succ n ih => rw [sumR_succ, sumR_succ, ih fun u hu => h u (by omega), h n (by omega)]
theorem sumR_one {n a : Nat} (ha : a < n) (s : Int) : ((List.range n).map fun u => if u = a then s else 0).sum = s := by
  induction n with
  | zero => omega
  | succ n ih =>
    rw [sumR_succ]
    by_cases e : a = n
    · subst e
      rw [sumR_congr (g := fun _ => 0) fun u hu => if_neg (by omega), sumR_zero]; simp
    · rw [ih (by omega), if_neg (fun h => e h.symm)]; simp
theorem sum2_add (N : Nat) (f g : Nat → Nat → Int) : sum2 N (fun u v => f u v + g u v) = sum2 N f + sum2 N g := by
  unfold sum2
  rw [← sumR_add]
  exact sumR_congr fun u _ => sumR_add N _ _
theorem sum2_congr {N : Nat} {f g : Nat → Nat → Int} (h : ∀ u v, u < N → v < N → f u v = g u v) : sum2 N f = sum2 N g := sumR_congr fun u hu => sumR_congr fun v hv => h u v hu hv
theorem sum2_one {N a b : Nat} (ha : a < N) (hb : b < N) (s : Int) : sum2 N (fun u v => if u = a ∧ v = b then s else 0) = s := by
  unfold sum2
  rw [sumR_congr (g := fun u => if u = a then s else 0) fun u _ => ?_, sumR_one ha]
  by_cases e : u = a
  · subst e; rw [if_pos rfl]; exact (sumR_congr (g := fun v => if v = b then s else 0) fun v _ => by simp).trans (sumR_one hb s)
  · rw [if_neg e]; exact (sumR_congr (g := fun _ => 0) fun v _ => by simp [e]).trans (sumR_zero N)
theorem sum2_zero (N : Nat) : sum2 N (fun _ _ => 0) = 0 := by
  unfold sum2
  rw [sumR_congr (g := fun _ => 0) fun u _ => sumR_zero N, sumR_zero]
/-- Every pair counted so that each crossing counts twice. -/
def wt (F : Nat → Nat → Int) : Nat → Nat → Int := fun u v => F u v + (if u = v then F u v else 0)
theorem sum2_bump {N a b : Nat} (ha : a < N) (hb : b < N) (F : Nat → Nat → Int) (s : Int) : sum2 N (wt (bump F a b s)) = sum2 N (wt F) + 2 * s := by
  have e : sum2 N (wt (bump F a b s)) = sum2 N (fun u v => wt F u v + ((fun u v => if u = a ∧ v = b then s else 0) u v + (fun u v => if u = b ∧ v = a then s else 0) u v)) := by
    refine sum2_congr fun u v _ _ => ?_
    unfold wt bump
    by_cases e1 : a = b <;> by_cases e2 : u = v <;> by_cases e3 : u = a <;> by_cases e4 : v = b <;> by_cases e5 : u = b <;> by_cases e6 : v = a <;> simp [e1, e2, e3, e4, e5, e6] <;> (first | omega | (exfalso; omega) | skip)
  rw [e, sum2_add N (wt F) (fun u v => (fun u v => if u = a ∧ v = b then s else 0) u v + (fun u v => if u = b ∧ v = a then s else 0) u v), sum2_add N (fun u v => if u = a ∧ v = b then s else 0) (fun u v => if u = b ∧ v = a then s else 0), sum2_one ha hb, sum2_one hb ha]
  omega

/-- What the run keeps. -/
structure LkInv (lab : Nat → Nat) (n N : Nat) (xs : List Int) (F : Nat → Nat → Int) (S : List Int) : Prop where
  sym : ∀ u v, F u v = F v u
  tot : sum2 N (wt F) = 2 * (xs.map sgx).sum
  par : ∀ u v, u ≠ v → (F u v + ii u v (labs lab S) 0) % 2 = (ii u v (labs lab (iota n)) 0) % 2
  bd : ∀ u v, (F u v).natAbs ≤ xs.length
theorem lkRun_inv {lab : Nat → Nat} {n N : Nat} (hn : n ≤ 1000) (hlab : ∀ i, i < n → lab i < N) {xs : List Int} (hx : ∀ x ∈ xs, x ≠ 0 ∧ x.natAbs < n) : LkInv lab n N xs (lkRun lab n xs).1 (lkRun lab n xs).2 := by
  obtain ⟨ys, hy⟩ : ∃ ys, ys = xs.reverse := ⟨_, rfl⟩
  obtain rfl : xs = ys.reverse := by rw [hy, List.reverse_reverse]
  clear hy
  induction ys with
  | nil => exact ⟨fun _ _ => rfl, by
      have : sum2 N (wt fun _ _ => 0) = 0 := by rw [sum2_congr (g := fun _ _ => 0) fun u v _ _ => by simp [wt], sum2_zero]
      exact this, fun u v _ => by show (0 + _) % 2 = _; rw [Int.zero_add]; rfl, fun u v => by show (0 : Int).natAbs ≤ _; simp⟩
  | cons y ys ih =>
    rw [List.reverse_cons] at hx ⊢
    obtain ⟨h1, h2, h3, h4⟩ := ih fun x h => hx x (List.mem_append_left _ h)
    obtain ⟨hy0, hyn⟩ := hx y (by simp)
    rw [lkRun_snoc]
    obtain ⟨F, hF⟩ : ∃ F, F = (lkRun lab n ys.reverse).1 := ⟨_, rfl⟩
    obtain ⟨S, hS⟩ : ∃ S, S = (lkRun lab n ys.reverse).2 := ⟨_, rfl⟩
    have hSe : S = strandsL n ys.reverse := by rw [hS, lkRun_strands]
    have hp : IsPerm S := by rw [hSe]; exact strands_perm hn _ fun x h => hx x (List.mem_append_left _ h)
    have hl : S.length = n := by rw [hSe, strandsL_length]
    rw [← hF, ← hS] at h3
    rw [← hF] at h1 h2 h4
    have hlb : ∀ i, i < n → lbl lab S i < N := fun i hi => by
      have := hp.range _ (nth_mem (show i < S.length by omega))
      exact hlab _ (by omega)
    have ha := hlb (y.natAbs - 1) (by omega)
    have hb := hlb y.natAbs hyn
    show LkInv lab n N _ (bump (lkRun lab n ys.reverse).1 (lbl lab (lkRun lab n ys.reverse).2 (y.natAbs - 1)) (lbl lab (lkRun lab n ys.reverse).2 y.natAbs) (sgx y)) (swS (lkRun lab n ys.reverse).2 y)
    rw [← hF, ← hS]
    obtain ⟨pre, post, e1, e2⟩ := labs_swS (lab := lab) hy0 (by rw [hl]; exact hyn : y.natAbs < S.length)
    obtain ⟨a, hae⟩ : ∃ a, lbl lab S (y.natAbs - 1) = a := ⟨_, rfl⟩
    obtain ⟨b, hbe⟩ : ∃ b, lbl lab S y.natAbs = b := ⟨_, rfl⟩
    rw [hae, hbe] at e1 e2
    rw [hae] at ha ⊢
    rw [hbe] at hb ⊢
    have hs := sgx_cases hy0
    refine ⟨fun u v => ?_, ?_, fun u v huv => ?_, fun u v => ?_⟩
    · unfold bump
      rw [h1 u v]
      by_cases e1 : a = b <;> by_cases e3 : u = a <;> by_cases e4 : v = b <;> by_cases e5 : u = b <;> by_cases e6 : v = a <;> simp [e1, e3, e4, e5, e6] <;> (first | omega | (exfalso; omega) | skip)
    · rw [sum2_bump ha hb, h2]; simp; omega
    · have h5 := h3 u v huv
      have h6 := ii_swap huv pre post a b 0
      rw [← e1, ← e2] at h6
      unfold bump
      by_cases c1 : u = a ∧ v = b
      · have c2 : ¬ (a ≠ b ∧ u = b ∧ v = a) := by omega
        have c3 : ¬ (a = v ∧ b = u) := by omega
        rw [if_pos c1, if_neg c2]
        rw [if_pos ⟨c1.1.symm, c1.2.symm⟩, if_neg c3] at h6
        rcases hs with ⟨h7, _⟩ | ⟨h7, _⟩ <;> rw [h7] <;> omega
      · rw [if_neg c1]
        by_cases c2 : u = b ∧ v = a
        · have c3 : ¬ (a = u ∧ b = v) := by omega
          rw [if_pos ⟨by omega, c2.1, c2.2⟩]
          rw [if_neg c3, if_pos ⟨c2.2.symm, c2.1.symm⟩] at h6
          rcases hs with ⟨h7, _⟩ | ⟨h7, _⟩ <;> rw [h7] <;> omega
        · have c3 : ¬ (a = u ∧ b = v) := fun h => c1 ⟨h.1.symm, h.2.symm⟩
          have c4 : ¬ (a = v ∧ b = u) := fun h => c2 ⟨h.2.symm, h.1.symm⟩
          rw [if_neg (fun h => c2 h.2)]
          rw [if_neg c3, if_neg c4] at h6
          omega
    · have h5 := h4 u v
      unfold bump
      rw [List.length_append]
      simp only [List.length_cons, List.length_nil]
      by_cases c1 : u = a ∧ v = b
      · rw [if_pos c1, if_neg (by omega)]
        rcases hs with ⟨h7, _⟩ | ⟨h7, _⟩ <;> rw [h7] <;> omega
      · rw [if_neg c1]
        split
        · rcases hs with ⟨h7, _⟩ | ⟨h7, _⟩ <;> rw [h7] <;> omega
        · omega

/-- The linking numbers. -/
def lkN (F : Nat → Nat → Int) : Nat → Nat → Int := fun u v => if u = v then F u v else (F u v).tdiv 2
end Go.Proofs.Ytckopilciekfbaa


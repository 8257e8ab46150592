/- Linking numbers: plain law. -/
import Derived.Test.YtplekfgadbjgdaaQTopSums0
import Derived.Test.YtplekfgadbjgdaaQTopSums1
import Derived.Test.YtplekfgadbjgdaaQTopSums2
import Derived.Test.YtplekfgadbjgdaaQTopSums3
import Derived.Test.YtplekfgadbjgdaaQTopSums4
import Derived.Test.YtplekfgadbjgdaaQTopSums5
import Derived.Test.YtplekfgadbjgdaaQTopSums6
import Derived.Test.YtplekfgadbjgdaaQTopSums7
import Derived.Test.YtplekfgadbjgdaaQTopSums8
import Derived.Test.YtplekfgadbjgdaaQTopSums9
import Derived.Test.YtplekfgadbjgdaaQTopSums10
import Derived.Test.YtplekfgadbjgdaaQTopSums11
import Derived.Test.YtplekfgadbjgdaaQTopSums12
import Derived.Test.YtplekfgadbjgdaaQTopSums13
import Derived.Test.YtplekfgadbjgdaaQTopSums14
import Derived.Test.YtplekfgadbjgdaaQTopSums15
import Derived.Test.YtplekfgadbjgdaaQTopSums16
import Derived.Test.YtplekfgadbjgdaaQTopSums17
import Derived.Test.YtplekfgadbjgdaaQTopSums18
import Derived.Test.YtplekfgadbjgdaaQTopSums19
import Derived.Test.YtplekfgadbjgdaaQTopSums20
import Derived.Test.YtplekfgadbjgdaaQTopSums21
import Derived.Test.YtplekfgadbjgdaaQTopSums22
import Derived.Test.YtplekfgadbjgdaaQTopSums23
import Derived.Test.YtplekfgadbjgdaaQTopSums24
import Derived.Test.YtplekfgadbjgdaaQTopSums25
import Derived.Test.YtplekfgadbjgdaaQTopSums26
import Derived.Test.YtplekfgadbjgdaaQTopSums27
import Derived.Test.YtplekfgadbjgdaaQTopSums28
import Derived.Test.YtplekfgadbjgdaaQTopSums29
import Derived.Test.YtplekfgadbjgdaaQTopSums30
import Derived.Test.YtplekfgadbjgdaaQTopSums31
import Derived.Test.YtplekfgadbjgdaaQTopSums32
import Derived.Test.YtplekfgadbjgdaaQTopSums33
import Derived.Test.YtplekfgadbjgdaaQTopSums34
import Derived.Test.YtplekfgadbjgdaaQTopSums35
import Derived.Test.YtplekfgadbjgdaaQTopSums36
import Derived.Test.YtplekfgadbjgdaaQTopSums37
import Derived.Test.YtplekfgadbjgdaaQTopSums38
import Derived.Test.YtplekfgadbjgdaaQTopSums39
import Derived.Test.YtplekfgadbjgdaaQTopSums40
import Derived.Test.YtplekfgadbjgdaaQTopSums42
import Derived.Test.YtplekfgadbjgdaaQTopSums43
import Derived.Test.YtplekfgadbjgdaaQTopSums44
import Derived.Test.YtplekfgadbjgdaaQTopSums45
import Derived.RangeFuncNested
import Derived.RangeFuncCalls
import Derived.OrdersIn
import Derived.OrdersHeld
import Derived.Deep.RegionHeld
import Derived.RangeFuncBound
import Derived.RangeFuncLeaves
import Derived.RangeFuncBox
import Derived.Shelf.Abstract
import Derived.Shelf.RegionOpen
import Derived.OwnWalkIn
import Derived.TacticsInMore
import Derived.LoopNIn
import Derived.LoopIn
import Derived.Maps.AppendAt
import Derived.Deep.RegionLaw
import Derived.Deep.RegionWith
namespace Go.Proofs.Ytplekfgadbjgdaa
open Go.TL

section
variable {P : List Nat} {N Tr : Nat} {t : Rat}
theorem stepJ_congr {f g : Nat → Rat} (h : ∀ i, i < N → f i = g i) (x : Int) (j : Nat) : stepJ P N t x f j = stepJ P N t x g j := sumQ_congr fun i hi => by rw [h i hi]
theorem stepJ_lin (a b : Rat) (f g : Nat → Rat) (x : Int) (j : Nat) : stepJ P N t x (fun i => a * f i + b * g i) j = a * stepJ P N t x f j + b * stepJ P N t x g j := by
  unfold stepJ
  rw [← sumQ_mul, ← sumQ_mul, ← sumQ_add]
  exact sumQ_congr fun i _ => by grind
theorem wordJ_cons (x : Int) (xs : List Int) (f : Nat → Rat) : wordJ P N t (x :: xs) f = wordJ P N t xs (stepJ P N t x f) := rfl
theorem wordJ_append (xs ys : List Int) (f : Nat → Rat) : wordJ P N t (xs ++ ys) f = wordJ P N t ys (wordJ P N t xs f) := by unfold wordJ; rw [List.foldl_append]
theorem wordJ_congr : ∀ (xs : List Int) (f g : Nat → Rat), (∀ i, i < N → f i = g i) → ∀ j, j < N → wordJ P N t xs f j = wordJ P N t xs g j
  | [], _, _, h, j, hj => h j hj
  | x :: xs, f, g, h, j, hj => by
    rw [wordJ_cons, wordJ_cons]
    exact wordJ_congr xs _ _ (fun i _ => stepJ_congr h x i) j hj
theorem wordJ_lin (a b : Rat) : ∀ (xs : List Int) (f g : Nat → Rat) (j : Nat), j < N → wordJ P N t xs (fun i => a * f i + b * g i) j = a * wordJ P N t xs f j + b * wordJ P N t xs g j
  | [], _, _, _, _ => rfl
  | x :: xs, f, g, j, hj => by
    rw [wordJ_cons, wordJ_cons, wordJ_cons, ← wordJ_lin a b xs _ _ j hj]
    exact wordJ_congr xs _ _ (fun i _ => stepJ_lin a b f g x i) j hj
end
theorem sumL_one (x : Int) : sumL [x] = sgnI x := by simp [sumL]
end Go.Proofs.Ytplekfgadbjgdaa

namespace Go.Proofs.Ytplekfgadbjgdaa
open Go.TL

/-- g, laid into the larger table by c. -/
def spreadJ (N2 : Nat) (c : Nat → Nat) (g : Nat → Rat) (k : Nat) : Rat := sumQ N2 fun j => g j * if k = c j then 1 else 0
theorem sumQ_mul' (n : Nat) (c : Rat) (f : Nat → Rat) : sumQ n (fun i => f i * c) = sumQ n f * c := by
  rw [sumQ_congr (g := fun i => c * f i) (fun i _ => Rat.mul_comm _ _), sumQ_mul, Rat.mul_comm]
/-- A sum over the larger table. -/
theorem spread_sum {N N2 : Nat} {c : Nat → Nat} {g : Nat → Rat} (hc : ∀ j, j < N2 → c j < N) (G : Nat → Rat) : sumQ N (fun k => spreadJ N2 c g k * G k) = sumQ N2 fun j => g j * G (c j) := by
  have e : ∀ k, k < N → spreadJ N2 c g k * G k = sumQ N2 (fun j => g j * (if k = c j then 1 else 0) * G k) := fun k _ => by
    unfold spreadJ; rw [sumQ_mul']
  rw [sumQ_congr e, sumQ_swap]
  refine sumQ_congr fun j hj => ?_
  rw [sumQ_one (hc j hj) (fun k _ hk => by rw [if_neg hk]; simp), if_pos rfl, Rat.mul_one]
/-- A letter of the larger table does as the letter of the smaller one does. -/
theorem step_spread {t : Rat} {P P2 : List Nat} {N N2 : Nat} {c : Nat → Nat} {x y : Int} (hc : ∀ j, j < N2 → c j < N) (hs : decide (0 < x) = decide (0 < y))
    (h0 : ∀ j, j < N2 → (PT P2 j 0).1 < N2 ∧ PT P (c j) 0 = (c (PT P2 j 0).1, (PT P2 j 0).2))
    (h1 : ∀ j, j < N2 → (PT P2 j y.natAbs).1 < N2 ∧ PT P (c j) x.natAbs = (c (PT P2 j y.natAbs).1, (PT P2 j y.natAbs).2)) (g : Nat → Rat) (k : Nat) :
    stepJ P N t x (spreadJ N2 c g) k = spreadJ N2 c (stepJ P2 N2 t y g) k := by
  have he : ∀ ch, exJ x ch = exJ y ch := fun ch => by unfold exJ; rw [hs]
  have hcf : ∀ j, j < N2 → ∀ ch, cfJ P t x.natAbs x (c j) ch k = sumQ N2 fun l => cfJ P2 t y.natAbs y j ch l * if k = c l then 1 else 0 := fun j hj ch => by
    obtain ⟨a1, a2⟩ : (PT P2 j (if ch = 0 then 0 else y.natAbs)).1 < N2 ∧ PT P (c j) (if ch = 0 then 0 else x.natAbs) = (c (PT P2 j (if ch = 0 then 0 else y.natAbs)).1, (PT P2 j (if ch = 0 then 0 else y.natAbs)).2) := by
      by_cases e : ch = 0
      · rw [if_pos e, if_pos e]; exact h0 j hj
      · rw [if_neg e, if_neg e]; exact h1 j hj
    unfold cfJ
    rw [a2, sumQ_one a1 (fun l _ hl => by rw [if_neg hl, Rat.zero_mul]), if_pos rfl, he]
    dsimp only
    by_cases e : k = c (PT P2 j (if ch = 0 then 0 else y.natAbs)).1
    · rw [if_pos e, if_pos e, Rat.mul_one]
    · rw [if_neg e, if_neg e, Rat.mul_zero]
  unfold stepJ
  rw [spread_sum hc (fun i => cfJ P t x.natAbs x i 0 k + cfJ P t x.natAbs x i 1 k)]
  unfold spreadJ
  have e2 : ∀ l, l < N2 → sumQ N2 (fun i => g i * (cfJ P2 t y.natAbs y i 0 l + cfJ P2 t y.natAbs y i 1 l)) * (if k = c l then 1 else 0) = sumQ N2 fun i => g i * ((cfJ P2 t y.natAbs y i 0 l + cfJ P2 t y.natAbs y i 1 l) * if k = c l then 1 else 0) := fun l _ => by
    rw [← sumQ_mul']
    exact sumQ_congr fun i _ => by grind
  rw [sumQ_congr e2, sumQ_swap]
  refine sumQ_congr fun j hj => ?_
  rw [hcf j hj, hcf j hj, ← sumQ_add, sumQ_mul]
  congr 1
  exact sumQ_congr fun l _ => by grind
section
variable {t : Rat} {n m d k N1 N2 N : Nat} {P1 P2 P : List Nat} {T1 T2 T : Nat} {c : Nat → Nat → Nat}
theorem wordJ_left (H : Beside n m d k N1 N2 N P1 P2 P T1 T2 T c) (hn : 0 < n) (h2 : 0 < N2) : ∀ (xs : List Int), NWord n xs → ∀ (f : Nat → Rat) (j : Nat), j < N → wordJ P N t xs (spreadJ N1 (fun i => c i 0) f) j = spreadJ N1 (fun i => c i 0) (wordJ P1 N1 t xs f) j
  | [], _, _, _, _ => rfl
  | x :: xs, hx, f, j, hj => by
    have h := hx x (by simp)
    rw [wordJ_cons, wordJ_cons, ← wordJ_left H hn h2 xs (fun y hy => hx y (by simp [hy])) _ j hj]
    exact wordJ_congr xs _ _ (fun i _ => step_spread (fun i hi => H.lt i 0 hi h2) rfl (fun i hi => H.left i 0 hi hn) (fun i hi => H.left i _ hi h.2) f i) j hj
theorem wordJ_right (H : Beside n m d k N1 N2 N P1 P2 P T1 T2 T c) (hm : 0 < m) {i : Nat} (hi : i < N1) : ∀ (ys : List Int), NWord m ys → ∀ (g : Nat → Rat) (j : Nat), j < N → wordJ P N t (shW d ys) (spreadJ N2 (c i) g) j = spreadJ N2 (c i) (wordJ P2 N2 t ys g) j
  | [], _, _, _, _ => rfl
  | y :: ys, hy, g, j, hj => by
    have h := hy y (by simp)
    show wordJ P N t ((if y < 0 then y - d else y + d) :: shW d ys) _ j = _
    rw [wordJ_cons, wordJ_cons, ← wordJ_right H hm hi ys (fun z hz => hy z (by simp [hz])) _ j hj]
    have e : (if y < 0 then y - (d : Int) else y + d).natAbs = y.natAbs + d := by split <;> omega
    have hs : decide (0 < if y < 0 then y - (d : Int) else y + d) = decide (0 < y) := decide_eq_decide.2 (by split <;> omega)
    refine wordJ_congr _ _ _ (fun l _ => step_spread (fun j hj => H.lt i j hi hj) hs (fun j hj => ?_) (fun j hj => ?_) g l) j hj
    · have := H.right i j 0 hi hj hm
      rwa [if_pos rfl] at this
    · have := H.right i j y.natAbs hi hj h.2
      rw [if_neg (by omega)] at this
      rwa [e]
theorem wordJ_zero (xs : List Int) {j : Nat} (hj : j < N) : wordJ P N t xs (fun _ => 0) j = 0 := by
  have := wordJ_lin (P := P) (N := N) (t := t) 0 0 xs (fun _ => 0) (fun _ => 0) j hj
  rw [Rat.zero_mul, Rat.zero_mul, Rat.zero_add] at this
  rw [← this]
  exact wordJ_congr xs _ _ (fun i _ => by grind) j hj
theorem wordJ_sum (xs : List Int) (f : Nat → Rat) (G : Nat → Nat → Rat) {j : Nat} (hj : j < N) : ∀ M, wordJ P N t xs (fun l => sumQ M fun i => f i * G i l) j = sumQ M fun i => f i * wordJ P N t xs (G i) j
  | 0 => wordJ_zero xs hj
  | M + 1 => by
    rw [sumQ, ← wordJ_sum xs f G hj M]
    have := wordJ_lin (P := P) (N := N) (t := t) 1 (f M) xs (fun l => sumQ M fun i => f i * G i l) (G M) j hj
    rw [Rat.one_mul] at this
    rw [← this]
    exact wordJ_congr xs _ _ (fun i _ => by rw [sumQ]; grind) j hj
theorem bracket_sum (H : Beside n m d k N1 N2 N P1 P2 P T1 T2 T c) (hn : 0 < n) (hm : 0 < m) (hN1 : 0 < N1) (hN2 : 0 < N2) {xs ys : List Int} (hx : NWord n xs) (hy : NWord m ys) :
    bracketJ P N T t (xs ++ shW d ys) = bracketJ P1 N1 T1 t xs * bracketJ P2 N2 T2 t ys * dl t ^ k := by
  have hu : ∀ l, l < N → unitJ l = spreadJ N1 (fun i => c i 0) unitJ l := fun l _ => by
    unfold spreadJ unitJ
    rw [sumQ_one hN1 (fun i _ hi => by rw [if_neg hi, Rat.zero_mul]), if_pos rfl, Rat.one_mul]
    show (if l = 0 then (1 : Rat) else 0) = if l = c 0 0 then 1 else 0
    rw [H.zero]
  obtain ⟨f, hf⟩ : ∃ f, wordJ P1 N1 t xs unitJ = f := ⟨_, rfl⟩
  obtain ⟨g, hg⟩ : ∃ g, wordJ P2 N2 t ys unitJ = g := ⟨_, rfl⟩
  have e1 : ∀ l, l < N → wordJ P N t xs unitJ l = sumQ N1 fun i => f i * spreadJ N2 (c i) unitJ l := fun l hl => by
    rw [wordJ_congr xs _ _ hu l hl, wordJ_left H hn hN2 xs hx _ l hl, hf]
    unfold spreadJ
    refine sumQ_congr fun i _ => ?_
    rw [sumQ_one hN2 (fun j _ hj => by unfold unitJ; rw [if_neg hj, Rat.zero_mul])]
    unfold unitJ; rw [if_pos rfl, Rat.one_mul]
  have e2 : ∀ l, l < N → wordJ P N t (xs ++ shW d ys) unitJ l = sumQ N1 fun i => f i * spreadJ N2 (c i) g l := fun l hl => by
    rw [wordJ_append, wordJ_congr _ _ _ e1 l hl, wordJ_sum _ _ _ hl]
    refine sumQ_congr fun i hi => ?_
    rw [wordJ_right H hm hi ys hy _ l hl, hg]
  unfold bracketJ
  rw [hf, hg]
  have e3 : ∀ l, l < N → wordJ P N t (xs ++ shW d ys) unitJ l * dl t ^ (dg T l - 1) = sumQ N1 fun i => f i * (spreadJ N2 (c i) g l * dl t ^ (dg T l - 1)) := fun l hl => by
    rw [e2 l hl, ← sumQ_mul']
    exact sumQ_congr fun i _ => by grind
  rw [sumQ_congr e3, sumQ_swap, Rat.mul_assoc, ← sumQ_mul']
  refine sumQ_congr fun i hi => ?_
  rw [sumQ_mul, spread_sum (fun j hj => H.lt i j hi hj) (fun l => dl t ^ (dg T l - 1)), Rat.mul_assoc]
  congr 1
  rw [← Rat.mul_assoc, ← sumQ_mul, ← sumQ_mul']
  refine sumQ_congr fun j hj => ?_
  rw [H.cl i j hi hj, rpow_add, rpow_add]
  grind
end
theorem sumL_app (xs ys : List Int) : sumL (xs ++ ys) = sumL xs + sumL ys := sumL_append xs ys
theorem sumL_sh (d : Nat) : ∀ (ys : List Int), sumL (shW d ys) = sumL ys
  | [] => rfl
  | y :: ys => by
    have h1 := sumL_app [if y < 0 then y - (d : Int) else y + d] (shW d ys)
    have h2 := sumL_app [y] ys
    show sumL ([if y < 0 then y - (d : Int) else y + d] ++ shW d ys) = sumL ([y] ++ ys)
    rw [h1, h2, sumL_sh d ys, sumL_one, sumL_one]
    have : sgnI (if y < 0 then y - (d : Int) else y + d) = sgnI y := by unfold sgnI; (repeat' split) <;> omega
    rw [this]
theorem signJ_add (a b : Int) : signJ (a + b) = signJ a * signJ b := by unfold signJ; (repeat' split) <;> omega
theorem jones_sum {t : Rat} (ht : t ≠ 0) {n m d k N1 N2 N : Nat} {P1 P2 P : List Nat} {T1 T2 T : Nat} {c : Nat → Nat → Nat} (H : Beside n m d k N1 N2 N P1 P2 P T1 T2 T c) (hn : 0 < n) (hm : 0 < m) (hN1 : 0 < N1) (hN2 : 0 < N2) {xs ys : List Int} (hx : NWord n xs) (hy : NWord m ys) :
    jonesV P N T t (xs ++ shW d ys) = jonesV P1 N1 T1 t xs * jonesV P2 N2 T2 t ys * dl t ^ k := by
  unfold jonesV
  rw [bracket_sum H hn hm hN1 hN2 hx hy, sumL_app, sumL_sh, signJ_add, Int.mul_add, Rat.zpow_add ht, Rat.intCast_mul]
  grind

end Go.Proofs.Ytplekfgadbjgdaa

namespace Go.Proofs.Ytplekfgadbjgdaa
open Go.RowKit Go.Sl Go.Mp Go.TL

/-- The polynomial that the function computes is the one with its values. -/
theorem jones_eq {n N : Nat} {S : List (List Nat)} {P : List Nat} {Tr : Nat} (H : MJ n N S P Tr) (h1 : 1 ≤ n) (h6 : n ≤ 6) (wv : Value) (xs : List Int) (w : World) (hw : Ints w wv xs) (hx : NWord n xs) (hl : xs.length ≤ 12) (q : LP) (hq : Trimmed q) (hv : ∀ t : Rat, t ≠ 0 → ev q t = jonesV P N Tr t xs) :
    Calls Try.prog 26 #[.int .i64 n, wv] w fun e w' => ∃ s, e = .returned (.tuple #[.agg #[.int .i64 q.low, s], .int .i64 0]) ∧ OwnI w' w.heap.size s q.c ∧ Below w.heap.size w w' := by
  refine (jones_calls H h1 h6 wv xs w hw hx hl).mono ?_
  rintro e w' ⟨p, s, rfl, hs, htr, _, _, hp, hb⟩
  obtain rfl : p = q := ev_ext htr hq fun t ht => by rw [hp t ht, hv t ht]
  exact ⟨s, rfl, hs, hb⟩
theorem tr_lit {lo : Int} {c : List Int} (h0 : c ≠ []) (h1 : nth c 0 ≠ 0) (h2 : nth c (c.length - 1) ≠ 0) : Trimmed ⟨lo, c⟩ := ⟨fun h => absurd h h0, fun _ => h1, fun _ => h2⟩
end Go.Proofs.Ytplekfgadbjgdaa

namespace Go.Proofs.Ytplekfgadbjgdaa
open Go.RowKit Go.Sl

/-- The inversions of two labels. -/
def ii (u v : Nat) : List Nat → Int → Int
  | [], _ => 0
  | l :: ls, c => (if l = u then c else 0) + ii u v ls (if l = v then c + 1 else c)
/-- Every pair counted so that each crossing counts twice. -/
def wt (F : Nat → Nat → Int) : Nat → Nat → Int := fun u v => F u v + (if u = v then F u v else 0)
end Go.Proofs.Ytplekfgadbjgdaa


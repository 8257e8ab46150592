/- Elements: how many there are, that they rise, that all are right and hold each product of generators. Plain law. -/
import Derived.Test.YtplekfgadbjgdaaQMatchingCounts0
import Derived.Test.YtplekfgadbjgdaaQMatchingCounts1
import Derived.Test.YtplekfgadbjgdaaQMatchingCounts2
import Derived.Test.YtplekfgadbjgdaaQMatchingCounts3
import Derived.Test.YtplekfgadbjgdaaQMatchingCounts4
import Derived.Test.YtplekfgadbjgdaaQMatchingCounts5
import Derived.Test.YtplekfgadbjgdaaQMatchingCounts6
import Derived.Test.YtplekfgadbjgdaaQMatchingCounts7
import Derived.Test.YtplekfgadbjgdaaQMatchingCounts8
import Derived.Test.YtplekfgadbjgdaaQMatchingCounts9
import Derived.Test.YtplekfgadbjgdaaQMatchingCounts10
import Derived.Test.YtplekfgadbjgdaaQMatchingCounts11
import Derived.Test.YtplekfgadbjgdaaQMatchingCounts12
import Derived.Test.YtplekfgadbjgdaaQMatchingCounts13
import Derived.Test.YtplekfgadbjgdaaQMatchingCounts14
import Derived.Test.YtplekfgadbjgdaaQMatchingCounts15
import Derived.Test.YtplekfgadbjgdaaQMatchingCounts16
import Derived.Test.YtplekfgadbjgdaaQMatchingCounts17
import Derived.Test.YtplekfgadbjgdaaQMatchingCounts18
import Derived.Test.YtplekfgadbjgdaaQMatchingCounts19
import Derived.Test.YtplekfgadbjgdaaQMatchingCounts20
import Derived.Test.YtplekfgadbjgdaaQMatchingCounts21
import Derived.Test.YtplekfgadbjgdaaQMatchingCounts22
import Derived.Test.YtplekfgadbjgdaaQMatchingCounts23
import Derived.Test.YtplekfgadbjgdaaQMatchingCounts24
import Derived.Test.YtplekfgadbjgdaaQMatchingCounts25
import Derived.Test.YtplekfgadbjgdaaQMatchingCounts26
import Derived.Test.YtplekfgadbjgdaaQMatchingCounts27
import Derived.Test.YtplekfgadbjgdaaQMatchingCounts28
import Derived.Test.YtplekfgadbjgdaaQMatchingCounts29
import Derived.Test.YtplekfgadbjgdaaQMatchingCounts31
import Derived.Test.YtplekfgadbjgdaaQMatchingCounts32
import Derived.Test.YtplekfgadbjgdaaQMatchingCounts33
import Derived.Test.YtplekfgadbjgdaaQMatchingCounts36
import Derived.Test.YtplekfgadbjgdaaQMatchingCounts37
import Derived.Test.YtplekfgadbjgdaaQMatchingCounts38
import Derived.Test.YtplekfgadbjgdaaQMatchingCounts39
import Derived.Test.YtplekfgadbjgdaaQMatchingCounts40
import Derived.Test.YtplekfgadbjgdaaQMatchingCounts41
import Derived.Deep.RegionLaw
import Derived.RangeFuncNested
import Derived.RangeFuncBound
import Derived.RangeFuncCalls
import Derived.RangeFuncLeaves
import Derived.RangeFuncBox
import Derived.Shelf.Abstract
import Derived.Shelf.RegionOpen
import Derived.OwnWalkIn
import Derived.TacticsInMore
import Derived.LoopNIn
import Derived.LoopIn
import Derived.Maps.AppendAt
namespace Go.Proofs.Ytplekfgadbjgdaa
open Go.TL

/-- Matching s is right, and its closure has as many loops as the table says. -/
def rightOne (n Tr : Nat) : List (List Nat) → Nat → Bool
  | [], _ => true
  | s :: S, i => bif (match closeL n s with | some c => Nat.beq c (dg Tr i) | none => false) then (bif closeB n s then (bif tokB n s then rightOne n Tr S (i + 1) else false) else false) else false
theorem rightOne_of {n Tr : Nat} : ∀ (S : List (List Nat)) (i : Nat), rightOne n Tr S i = true → ∀ k, (hk : k < S.length) → closeL n S[k] = some (dg Tr (i + k)) ∧ closeB n S[k] = true ∧ tokB n S[k] = true
  | s :: S, i, h, k, hk => by
    unfold rightOne at h
    cases h1 : closeL n s with
    | none => rw [h1] at h; cases h
    | some c =>
      rw [h1] at h
      dsimp only at h
      cases h2 : Nat.beq c (dg Tr i) with
      | false => rw [h2] at h; cases h
      | true =>
        cases h3 : closeB n s with
        | false => rw [h2, h3] at h; cases h
        | true =>
          cases h4 : tokB n s with
          | false => rw [h2, h3, h4] at h; cases h
          | true =>
            rw [h2, h3, h4] at h
            cases k with
            | zero => exact ⟨by rw [Nat.eq_of_beq_eq_true h2] at h1; exact h1, h3, h4⟩
            | succ k =>
              have := rightOne_of S (i + 1) h k (by simpa using hk)
              rw [show i + (k + 1) = i + 1 + k by omega]; exact this
def traceB (T : List Nat) (Tr N g : Nat) : Bool := allB (fun i => allB (fun h => Nat.beq (dg Tr (pv T i (h + 1) / 4) + pv T i (h + 1) % 4) (dg Tr (pv T (h + 1) i / 4) + pv T (h + 1) i % 4)) g) N
theorem trace_of {T : List Nat} {Tr N g : Nat} (h : traceB T Tr N g = true) (i a : Nat) (hi : i < N) (h1 : 1 ≤ a) (h2 : a ≤ g) : dg Tr (PT T i a).1 + (PT T i a).2 = dg Tr (PT T a i).1 + (PT T a i).2 := by
  unfold traceB at h
  have := allB_of (allB_of h i hi) (a - 1) (by omega)
  rw [show a - 1 + 1 = a by omega] at this
  exact Nat.eq_of_beq_eq_true this
def mT2 : Nat := 4098
theorem right2 : rightOne 2 mT2 mS2 0 = true := by decide +kernel
theorem trace2 : traceB mP2 mT2 2 1 = true := by decide +kernel
theorem ones2 : mS2.getD 0 [] = oneL 2 := by decide +kernel
theorem cups2 : ∀ h : Fin 2, 1 ≤ h.val → mS2.getD h.val [] = cupL 2 h.val := by decide +kernel
def mT3 : Nat := 281543729750019
theorem right3 : rightOne 3 mT3 mS3 0 = true := by decide +kernel
theorem trace3 : traceB mP3 mT3 5 2 = true := by decide +kernel
theorem ones3 : mS3.getD 0 [] = oneL 3 := by decide +kernel
theorem cups3 : ∀ h : Fin 3, 1 ≤ h.val → mS3.getD h.val [] = cupL 3 h.val := by decide +kernel
def mT4 : Nat := 182710010857408818806451149623228050168434667524
theorem right4 : rightOne 4 mT4 mS4 0 = true := by decide +kernel
theorem trace4 : traceB mP4 mT4 14 3 = true := by decide +kernel
theorem ones4 : mS4.getD 0 [] = oneL 4 := by decide +kernel
theorem cups4 : ∀ h : Fin 4, 1 ≤ h.val → mS4.getD h.val [] = cupL 4 h.val := by decide +kernel
def mT5 : Nat := 12789805335308136809814940480124717304358858317091550047479765992789919732423100882653089221577908871495816703906743497436522318653551728345619644421
theorem right5 : rightOne 5 mT5 mS5 0 = true := by decide +kernel
theorem trace5 : traceB mP5 mT5 42 4 = true := by decide +kernel
theorem ones5 : mS5.getD 0 [] = oneL 5 := by decide +kernel
theorem cups5 : ∀ h : Fin 5, 1 ≤ h.val → mS5.getD h.val [] = cupL 5 h.val := by decide +kernel
def mT6 : Nat := 496987122659403877242457480232208517570827423497725647611111112763639268925162485792712194093673406841281473934328759563122199218533721141697147324590843421874152947515154061892141400887433986329873148989199725946666231681347145261173225621674150468804738673563521457424726506383409793753223271061454449690038368244676784615369089005830057950460152981602083055272051523800589743724792693986930083931305497784669938165947499728221413135151522317554021695309198933084302495750
theorem right6 : rightOne 6 mT6 mS6 0 = true := by decide +kernel
theorem trace6 : traceB mP6 mT6 132 5 = true := by decide +kernel
theorem ones6 : mS6.getD 0 [] = oneL 6 := by decide +kernel
theorem cups6 : ∀ h : Fin 6, 1 ≤ h.val → mS6.getD h.val [] = cupL 6 h.val := by decide +kernel

end Go.Proofs.Ytplekfgadbjgdaa

namespace Go.Proofs.Ytplekfgadbjgdaa
open Go.TL

structure MT (n N : Nat) (S : List (List Nat)) (P : List Nat) (Tr : Nat) : Prop where
  tab : TabOK n N S P
  mul : ∃ par gn, MulOK N (n - 1) par gn (PT P)
  right : ∀ i, i < N → closeL n (S.getD i []) = some (dg Tr i) ∧ closeB n (S.getD i []) = true ∧ tokB n (S.getD i []) = true
  trace : ∀ i a, i < N → 1 ≤ a → a ≤ n - 1 → dg Tr (PT P i a).1 + (PT P i a).2 = dg Tr (PT P a i).1 + (PT P a i).2
  one : S.getD 0 [] = oneL n
  cup : ∀ h, 1 ≤ h → h < n → S.getD h [] = cupL n h
theorem mt_of {n N g : Nat} {S : List (List Nat)} {P : List Nat} {Tr : Nat} {par gn : Nat → Nat} (ht : TabOK n N S P) (hm : MulOK N g par gn (PT P)) (hg : g = n - 1) (hr : rightOne n Tr S 0 = true) (htr : traceB P Tr N g = true) (h0 : S.getD 0 [] = oneL n) (hc : ∀ h : Fin n, 1 ≤ h.val → S.getD h.val [] = cupL n h.val) : MT n N S P Tr := by
  subst hg
  refine ⟨ht, ⟨par, gn, hm⟩, fun i hi => ?_, fun i a hi h1 h2 => trace_of htr i a hi h1 h2, h0, fun h h1 h2 => hc ⟨h, h2⟩ h1⟩
  have hl : i < S.length := by rw [ht.len]; exact hi
  have := rightOne_of S 0 hr i hl
  rw [Nat.zero_add] at this
  rwa [show S.getD i [] = S[i] by rw [List.getD_eq_getElem?_getD, List.getElem?_eq_getElem hl]; rfl]
theorem lnAt_le_rows {n : Nat} {a b : List Nat} (h : ∀ k, (lnAt (putLines n a b (2 * n)) k).length ≤ 2) : rowsB n a b = true := by
  unfold rowsB
  simp only [List.all_eq_true, decide_eq_true_eq]
  intro r hr
  obtain ⟨k, hk, rfl⟩ := List.getElem_of_mem hr
  have := h k
  rwa [show lnAt (putLines n a b (2 * n)) k = (putLines n a b (2 * n))[k] by unfold lnAt; rw [List.getD_eq_getElem?_getD, List.getElem?_eq_getElem hk]; rfl] at this
theorem run_tab {n N : Nat} {S : List (List Nat)} {P : List Nat} {Tr : Nat} (H : MT n N S P Tr) : ∀ (X : List Nat), (∀ x ∈ X, 1 ≤ x ∧ x < n) → ∀ i c, i < N → c + 3 * X.length ≤ 1000 → ∃ j C, j < N ∧ C ≤ c + 3 * X.length ∧ runS n X (S.getD i []) c = some (S.getD j [], C)
  | [], _, i, c, hi, _ => ⟨i, c, hi, by simp, rfl⟩
  | x :: X, hX, i, c, hi, hc => by
    obtain ⟨x1, x2⟩ := hX x (by simp)
    obtain ⟨par, gn, hm⟩ := H.mul
    have hxN : x < N := by have := hm.gN; omega
    obtain ⟨p1, p2⟩ := H.tab.put i x hi hxN
    have hj := hm.lt i x hi hxN
    have hk : (PT P i x).2 ≤ 3 := by show pv P i x % 4 ≤ 3; omega
    simp only [List.length_cons] at hc
    obtain ⟨j, C, h1, h2, h3⟩ := run_tab H X (fun y hy => hX y (by simp [hy])) (PT P i x).1 (c + (PT P i x).2) hj (by omega)
    refine ⟨j, C, h1, by simp only [List.length_cons]; omega, ?_⟩
    rw [H.cup x x1 x2] at p1 p2
    rw [runS, if_pos ⟨x1, x2, by omega, (H.right i hi).2.2, by rw [← H.cup x x1 x2]; exact (H.right x hxN).2.2, lnAt_le_rows p2⟩, p1]
    dsimp only
    rw [if_pos (by omega)]
    exact h3

end Go.Proofs.Ytplekfgadbjgdaa

namespace Go.Proofs.Ytplekfgadbjgdaa
open Go.RowKit Go.Sl Go.TL

theorem ltB_cmp : ∀ (a b : List Nat), ltB a b = true → cmpL (iz a) (iz b) < 0
  | [], [], h => by cases h
  | _ :: _, [], h => by cases h
  | [], _ :: _, _ => by show (-1 : Int) < 0; decide
  | x :: a, y :: b, h => by
    rw [ltB] at h
    show (if (x : Int) < (y : Int) then (-1 : Int) else if (y : Int) < (x : Int) then 1 else cmpL (iz a) (iz b)) < 0
    by_cases h1 : Nat.ble (x + 1) y = true
    · have := Nat.le_of_ble_eq_true h1
      rw [if_pos (by omega)]; decide
    · have h1' : Nat.ble (x + 1) y = false := Bool.eq_false_iff.2 h1
      rw [h1', cond_false] at h
      by_cases h2 : Nat.beq x y = true
      · have := Nat.eq_of_beq_eq_true h2
        rw [h2, cond_true] at h
        rw [if_neg (by omega), if_neg (by omega)]
        exact ltB_cmp a b h
      · have h2' : Nat.beq x y = false := Bool.eq_false_iff.2 h2
        rw [h2', cond_false] at h; cases h
theorem cmpL_trans : ∀ (a b c : List Int), cmpL a b < 0 → cmpL b c < 0 → cmpL a c < 0
  | [], _, [], h1, h2 => by
    rename_i b
    cases b with
    | nil => exact h1
    | cons y b => exact absurd h2 (by show ¬ (1 : Int) < 0; decide)
  | _ :: _, [], _, h1, _ => absurd h1 (by show ¬ (1 : Int) < 0; decide)
  | _ :: _, _ :: _, [], _, h2 => absurd h2 (by show ¬ (1 : Int) < 0; decide)
  | [], _, _ :: _, _, _ => by show (-1 : Int) < 0; decide
  | x :: a, y :: b, z :: c, h1, h2 => by
    have h1 : (if x < y then (-1 : Int) else if y < x then 1 else cmpL a b) < 0 := h1
    have h2 : (if y < z then (-1 : Int) else if z < y then 1 else cmpL b c) < 0 := h2
    show (if x < z then (-1 : Int) else if z < x then 1 else cmpL a c) < 0
    have ih := cmpL_trans a b c
    split at h1
    · split at h2
      · rw [if_pos (by omega)]; decide
      · split at h2
        · exact absurd h2 (by decide)
        · rw [if_pos (by omega)]; decide
    · split at h1
      · exact absurd h1 (by decide)
      · split at h2
        · rw [if_pos (by omega)]; decide
        · split at h2
          · exact absurd h2 (by decide)
          · rw [if_neg (by omega), if_neg (by omega)]; exact ih h1 h2
theorem cmpL_self : ∀ (a : List Int), cmpL a a = 0
  | [] => rfl
  | x :: a => by
    show (if x < x then (-1 : Int) else if x < x then 1 else cmpL a a) = 0
    rw [if_neg (by omega), if_neg (by omega)]; exact cmpL_self a
theorem cmpL_flip : ∀ (a b : List Int), cmpL a b < 0 → 0 < cmpL b a
  | [], [], h => absurd h (by show ¬ (0 : Int) < 0; decide)
  | [], _ :: _, _ => by show (0 : Int) < 1; decide
  | _ :: _, [], h => absurd h (by show ¬ (1 : Int) < 0; decide)
  | x :: a, y :: b, h => by
    have h : (if x < y then (-1 : Int) else if y < x then 1 else cmpL a b) < 0 := h
    show 0 < (if y < x then (-1 : Int) else if x < y then 1 else cmpL b a)
    split at h
    · rw [if_neg (by omega), if_pos (by omega)]; decide
    · split at h
      · exact absurd h (by decide)
      · rw [if_neg (by omega), if_neg (by omega)]; exact cmpL_flip a b h
/-- Each is less than those behind it. -/
theorem rise_pair : ∀ (l : List (List Nat)), riseB l = true → l.Pairwise (fun a b => cmpL (iz a) (iz b) < 0)
  | [], _ => List.Pairwise.nil
  | [a], _ => by simp
  | a :: b :: l, h => by
    rw [riseB, Bool.and_eq_true] at h
    have h2 := rise_pair (b :: l) h.2
    have h1 := ltB_cmp a b h.1
    refine List.Pairwise.cons (fun c hc => ?_) h2
    rcases List.mem_cons.1 hc with rfl | hc
    · exact h1
    · exact cmpL_trans _ _ _ h1 ((List.pairwise_cons.1 h2).1 c hc)
theorem eqB_of : ∀ (a b : List Nat), eqB a b = true → a = b
  | [], [], _ => rfl
  | [], _ :: _, h => by cases h
  | _ :: _, [], h => by cases h
  | x :: a, y :: b, h => by
    rw [eqB, Bool.and_eq_true] at h
    rw [Nat.eq_of_beq_eq_true h.1, eqB_of a b h.2]
/-- What is known of the matchings found. -/
structure FA (n c : Nat) (l : List (List Nat)) : Prop where
  len : l.length = c
  rise : l.Pairwise (fun a b => cmpL (iz a) (iz b) < 0)
  ok : ∀ d ∈ l, TOk n d
theorem fa_of {n c : Nat} {S : List (List Nat)} (h : fillOK n c S = true) : FA n c (fillA n) ∧ ∀ s ∈ S, s ∈ fillA n := by
  unfold fillOK at h
  simp only [Bool.and_eq_true, List.all_eq_true, List.any_eq_true] at h
  obtain ⟨⟨⟨h1, h2⟩, h3⟩, h4⟩ := h
  refine ⟨⟨Nat.eq_of_beq_eq_true h1, rise_pair _ h2, fun d hd => TOk.of (h3 d hd)⟩, fun s hs => ?_⟩
  obtain ⟨t, ht, e⟩ := h4 s hs
  rw [eqB_of _ _ e]; exact ht
def catN (n : Nat) : Nat := [1, 2, 5, 14, 42, 132].getD (n - 1) 0
theorem fa_all (n : Nat) (h1 : 1 ≤ n) (h6 : n ≤ 6) : FA n (catN n) (fillA n) := by
  obtain rfl | rfl | rfl | rfl | rfl | rfl : n = 1 ∨ n = 2 ∨ n = 3 ∨ n = 4 ∨ n = 5 ∨ n = 6 := by omega
  · exact (fa_of fill1).1
  · exact (fa_of fill2).1
  · exact (fa_of fill3).1
  · exact (fa_of fill4).1
  · exact (fa_of fill5).1
  · exact (fa_of fill6).1
theorem in_of {n N : Nat} {S : List (List Nat)} {P : List Nat} {Tr : Nat} (H : MT n N S P Tr) (h : ∀ s ∈ S, s ∈ fillA n) (i : Nat) (hi : i < N) : S.getD i [] ∈ fillA n := by
  have hl : i < S.length := by rw [H.tab.len]; exact hi
  rw [show S.getD i [] = S[i] by rw [List.getD_eq_getElem?_getD, List.getElem?_eq_getElem hl]; rfl]
  exact h _ (List.getElem_mem hl)
theorem mt_in (n : Nat) (h2 : 2 ≤ n) (h6 : n ≤ 6) : ∃ N S P Tr, MT n N S P Tr ∧ ∀ i, i < N → S.getD i [] ∈ fillA n := by
  obtain rfl | rfl | rfl | rfl | rfl : n = 2 ∨ n = 3 ∨ n = 4 ∨ n = 5 ∨ n = 6 := by omega
  · have H := mt_of tab2 mul2 rfl right2 trace2 ones2 cups2; exact ⟨_, _, _, _, H, in_of H (fa_of fill2).2⟩
  · have H := mt_of tab3 mul3 rfl right3 trace3 ones3 cups3; exact ⟨_, _, _, _, H, in_of H (fa_of fill3).2⟩
  · have H := mt_of tab4 mul4 rfl right4 trace4 ones4 cups4; exact ⟨_, _, _, _, H, in_of H (fa_of fill4).2⟩
  · have H := mt_of tab5 mul5 rfl right5 trace5 ones5 cups5; exact ⟨_, _, _, _, H, in_of H (fa_of fill5).2⟩
  · have H := mt_of tab6 mul6 rfl right6 trace6 ones6 cups6; exact ⟨_, _, _, _, H, in_of H (fa_of fill6).2⟩

end Go.Proofs.Ytplekfgadbjgdaa


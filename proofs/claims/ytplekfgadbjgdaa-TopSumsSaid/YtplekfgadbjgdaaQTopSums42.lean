/- The tables: a matching beside another one. Printed by gen_jsum.py; the kernel checks them. -/
import Derived.Test.YtplekfgadbjgdaaQTopSums0
import Derived.Test.YtplekfgadbjgdaaQTopSums1
import Derived.Test.YtplekfgadbjgdaaQTopSums3
import Derived.Test.YtplekfgadbjgdaaQTopSums4
import Derived.Test.YtplekfgadbjgdaaQTopSums5
import Derived.Test.YtplekfgadbjgdaaQTopSums6
import Derived.Test.YtplekfgadbjgdaaQTopSums7
import Derived.Test.YtplekfgadbjgdaaQTopSums8
import Derived.Test.YtplekfgadbjgdaaQTopSums10
import Derived.Test.YtplekfgadbjgdaaQTopSums11
import Derived.Test.YtplekfgadbjgdaaQTopSums12
import Derived.Test.YtplekfgadbjgdaaQTopSums13
import Derived.Test.YtplekfgadbjgdaaQTopSums14
import Derived.Test.YtplekfgadbjgdaaQTopSums15
import Derived.Test.YtplekfgadbjgdaaQTopSums16
import Derived.Test.YtplekfgadbjgdaaQTopSums17
import Derived.Test.YtplekfgadbjgdaaQTopSums19
import Derived.Test.YtplekfgadbjgdaaQTopSums20
import Derived.Test.YtplekfgadbjgdaaQTopSums21
import Derived.Test.YtplekfgadbjgdaaQTopSums22
import Derived.Test.YtplekfgadbjgdaaQTopSums26
import Derived.Test.YtplekfgadbjgdaaQTopSums27
import Derived.Test.YtplekfgadbjgdaaQTopSums28
import Derived.Test.YtplekfgadbjgdaaQTopSums29
import Derived.Test.YtplekfgadbjgdaaQTopSums30
import Derived.Test.YtplekfgadbjgdaaQTopSums31
import Derived.Test.YtplekfgadbjgdaaQTopSums32
import Derived.Test.YtplekfgadbjgdaaQTopSums33
import Derived.Test.YtplekfgadbjgdaaQTopSums37
import Derived.Test.YtplekfgadbjgdaaQTopSums38
import Derived.RangeFuncNested
import Derived.RangeFuncBound
import Derived.RangeFuncCalls
import Derived.RangeFuncLeaves
import Derived.RangeFuncBox
import Derived.Shelf.Abstract
import Derived.Shelf.RegionOpen
import Derived.OwnWalkIn
import Derived.TacticsInMore
import Derived.LoopNIn
import Derived.LoopIn
import Derived.Maps.AppendAt
import Derived.Deep.RegionLaw
namespace Go.Proofs.Ytplekfgadbjgdaa
open Go.RowKit Go.Sl
open Go.TL (lnAt addLn tlWalk tlLoops putLines putL closeLines closeL oneL cupL)

def closeB (n : Nat) (d : List Nat) : Bool := (closeLines n d (2 * n)).all fun r => decide (r.length ≤ 2)
theorem lnAt_all {L : List (List Nat)} (h : (L.all fun r => decide (r.length ≤ 2)) = true) (j : Nat) : (lnAt L j).length ≤ 2 := by
  simp only [List.all_eq_true, decide_eq_true_eq] at h
  by_cases hj : j < L.length
  · have : lnAt L j = L[j] := by unfold lnAt; rw [List.getD_eq_getElem?_getD, List.getElem?_eq_getElem hj]; rfl
    rw [this]; exact h _ (List.getElem_mem hj)
  · rw [lnAt_ge (by omega)]; simp
theorem close_of {n : Nat} {d : List Nat} (h : closeB n d = true) (j : Nat) : (lnAt (closeLines n d (2 * n)) j).length ≤ 2 := lnAt_all h j

end Go.Proofs.Ytplekfgadbjgdaa

namespace Go.Proofs.Ytplekfgadbjgdaa
open Go.TL

/-- Matching s is right, and its closure has as many loops as the table says. -/
def rightOne (n Tr : Nat) : List (List Nat) → Nat → Bool
  | [], _ => true
  | s :: S, i => bif (match closeL n s with | some c => Nat.beq c (dg Tr i) | none => false) then (bif closeB n s then (bif tokB n s then rightOne n Tr S (i + 1) else false) else false) else false
theorem rightOne_of {n Tr : Nat} : ∀ (S : List (List Nat)) (i : Nat), rightOne n Tr S i = true → ∀ k, (hk : k < S.length) → closeL n S[k] = some (dg Tr (i + k)) ∧ closeB n S[k] = true ∧ tokB n S[k] = true
  | s :: S, i, h, k, hk => by
    unfold rightOne at h
    cases h1 : closeL n s with
    | none => rw [h1] at h; cases h
    | some c =>
      rw [h1] at h
      dsimp only at h
      cases h2 : Nat.beq c (dg Tr i) with
      | false => rw [h2] at h; cases h
      | true =>
        cases h3 : closeB n s with
        | false => rw [h2, h3] at h; cases h
        | true =>
          cases h4 : tokB n s with
          | false => rw [h2, h3, h4] at h; cases h
          | true =>
            rw [h2, h3, h4] at h
            cases k with
            | zero => exact ⟨by rw [Nat.eq_of_beq_eq_true h2] at h1; exact h1, h3, h4⟩
            | succ k =>
              have := rightOne_of S (i + 1) h k (by simpa using hk)
              rw [show i + (k + 1) = i + 1 + k by omega]; exact this
def mT2 : Nat := 4098
theorem right2 : rightOne 2 mT2 mS2 0 = true := by decide +kernel
theorem ones2 : mS2.getD 0 [] = oneL 2 := by decide +kernel
theorem cups2 : ∀ h : Fin 2, 1 ≤ h.val → mS2.getD h.val [] = cupL 2 h.val := by decide +kernel
def mT3 : Nat := 281543729750019
theorem right3 : rightOne 3 mT3 mS3 0 = true := by decide +kernel
theorem ones3 : mS3.getD 0 [] = oneL 3 := by decide +kernel
theorem cups3 : ∀ h : Fin 3, 1 ≤ h.val → mS3.getD h.val [] = cupL 3 h.val := by decide +kernel
def mT4 : Nat := 182710010857408818806451149623228050168434667524
theorem right4 : rightOne 4 mT4 mS4 0 = true := by decide +kernel
theorem ones4 : mS4.getD 0 [] = oneL 4 := by decide +kernel
theorem cups4 : ∀ h : Fin 4, 1 ≤ h.val → mS4.getD h.val [] = cupL 4 h.val := by decide +kernel
def mT5 : Nat := 12789805335308136809814940480124717304358858317091550047479765992789919732423100882653089221577908871495816703906743497436522318653551728345619644421
theorem right5 : rightOne 5 mT5 mS5 0 = true := by decide +kernel
theorem ones5 : mS5.getD 0 [] = oneL 5 := by decide +kernel
theorem cups5 : ∀ h : Fin 5, 1 ≤ h.val → mS5.getD h.val [] = cupL 5 h.val := by decide +kernel
def mT6 : Nat := 496987122659403877242457480232208517570827423497725647611111112763639268925162485792712194093673406841281473934328759563122199218533721141697147324590843421874152947515154061892141400887433986329873148989199725946666231681347145261173225621674150468804738673563521457424726506383409793753223271061454449690038368244676784615369089005830057950460152981602083055272051523800589743724792693986930083931305497784669938165947499728221413135151522317554021695309198933084302495750
theorem right6 : rightOne 6 mT6 mS6 0 = true := by decide +kernel
theorem ones6 : mS6.getD 0 [] = oneL 6 := by decide +kernel
theorem cups6 : ∀ h : Fin 6, 1 ≤ h.val → mS6.getD h.val [] = cupL 6 h.val := by decide +kernel

end Go.Proofs.Ytplekfgadbjgdaa

namespace Go.TL
/-- The rows of the generators alone. -/
theorem tabG {n N C : Nat} {S : List (List Nat)} {P : List Nat} (hn1 : 1 ≤ n) (hn : 3 * n ≤ 31) (hn8 : 2 * n ≤ 16) (hlen : S.length = N) (hnN : n ≤ N) (hS : S.all (fun s => decide (s.length = 2 * n) && s.all fun x => decide (x < 2 * n)) = true) (hc : codeB C S 0 = true)
    (hlt : ∀ i j, i < N → j < n → (PT P i j).1 < N) (hrow : rowsOK n C (S.take n) S P = true) : ∀ i j, i < N → j < n → putL n (S.getD i []) (S.getD j []) = some (S.getD (PT P i j).1 [], (PT P i j).2) ∧ ∀ k, (lnAt (putLines n (S.getD i []) (S.getD j []) (2 * n)) k).length ≤ 2 := by
  intro i j hi hj
  have hr0 : rowOK n (S.getD i []) (P.getD i 0) C (S.take n) 0 = true := by
    have := rowsAll_of S P hrow i (by omega)
    rwa [show S.getD i [] = S[i] by rw [List.getD_eq_getElem?_getD, List.getElem?_eq_getElem (by omega)]; rfl]
  simp only [List.all_eq_true, Bool.and_eq_true, decide_eq_true_eq] at hS
  have gd : ∀ i, (h : i < N) → S.getD i [] = S[i] := fun i h => by rw [List.getD_eq_getElem?_getD, List.getElem?_eq_getElem (by omega)]; rfl
  have sl : ∀ i, i < N → (S.getD i []).length = 2 * n ∧ ∀ x ∈ S.getD i [], x < 2 * n := fun i h => by rw [gd i h]; exact hS _ (List.getElem_mem _)
  have sb : ∀ i, i < N → ∀ k, (S.getD i []).getD k 0 < 2 * n := fun i h k => by
    obtain ⟨h1, h2⟩ := sl i h
    by_cases hk : k < (S.getD i []).length
    · rw [List.getD_eq_getElem?_getD (l := S.getD i []), List.getElem?_eq_getElem hk]; exact h2 _ (List.getElem_mem hk)
    · rw [List.getD_eq_getElem?_getD (l := S.getD i []), List.getElem?_eq_none (by omega)]
      show 0 < 2 * n; omega
  have hjN : j < N := by omega
  have hr := row_of (S.take n) 0 hr0 j (by rw [List.length_take]; omega)
  rw [List.getElem_take, ← gd j hjN, Nat.zero_add] at hr
  obtain ⟨O, K, e1, e2, e3, e4, e5, e6⟩ := fput_of hn hn8 (sl i hi).1 (sl j hjN).1 (sb i hi) (sb j hjN) hr (by omega)
  have hp := hlt i j hi hj
  have hcd := code_of S 0 hc (PT P i j).1 (by omega)
  rw [Nat.zero_add, ← gd _ hp] at hcd
  have hv : dg (P.getD i 0) j = pv P i j := rfl
  rw [hv] at e6
  have hcd2 : Nat.mod (Nat.shiftRight C (Nat.mul 48 (pv P i j / 4))) 281474976710656 = encD (S.getD (PT P i j).1 []) := hcd
  rw [hcd2] at e6
  have hK : K = (PT P i j).2 ∧ encD O = encD (S.getD (PT P i j).1 []) := by
    show K = pv P i j % 4 ∧ _
    constructor <;> omega
  refine ⟨?_, e2⟩
  rw [e1, hK.1]
  rw [encD_inj e3 (fun x hx => by have := (sl _ hp).2 x hx; omega) (by rw [e4, (sl _ hp).1]) hK.2]
end Go.TL
namespace Go.Proofs.Ytplekfgadbjgdaa
open Go.TL

structure MJ (n N : Nat) (S : List (List Nat)) (P : List Nat) (Tr : Nat) : Prop where
  gN : n ≤ N
  inj : ∀ i j, i < N → j < N → S.getD i [] = S.getD j [] → i = j
  put : ∀ i j, i < N → j < n → putL n (S.getD i []) (S.getD j []) = some (S.getD (PT P i j).1 [], (PT P i j).2) ∧ ∀ k, (lnAt (putLines n (S.getD i []) (S.getD j []) (2 * n)) k).length ≤ 2
  lt : ∀ i j, i < N → j < n → (PT P i j).1 < N
  eno : ∀ i, i < N → PT P i 0 = (i, 0)
  gl : ∀ i j, i < N → j < n → (PT P i j).2 ≤ 1
  right : ∀ i, i < N → closeL n (S.getD i []) = some (dg Tr i) ∧ closeB n (S.getD i []) = true ∧ tokB n (S.getD i []) = true
  cl : ∀ i, i < N → 1 ≤ dg Tr i ∧ dg Tr i ≤ 6
  one : S.getD 0 [] = oneL n
  cup : ∀ h, 1 ≤ h → h < n → S.getD h [] = cupL n h

def mjB (n N : Nat) (P : List Nat) (Tr : Nat) : Bool :=
  allB (fun i => (Nat.beq (pv P i 0) (4 * i)) && (Nat.ble 1 (dg Tr i)) && (Nat.ble (dg Tr i) 6) && allB (fun j => (Nat.ble (pv P i j / 4 + 1) N) && (Nat.ble (pv P i j % 4) 1)) n) N
theorem mj_of {n N C : Nat} {S : List (List Nat)} {P : List Nat} {Tr : Nat} (hn1 : 1 ≤ n) (hn : 3 * n ≤ 31) (hn8 : 2 * n ≤ 16) (hlen : S.length = N) (hnN : n ≤ N) (hS : S.all (fun s => decide (s.length = 2 * n) && s.all fun x => decide (x < 2 * n)) = true) (hc : codeB C S 0 = true)
    (hrow : rowsOK n C (S.take n) S P = true) (hb : mjB n N P Tr = true) (hnd : S.Nodup) (hr : rightOne n Tr S 0 = true) (h0 : S.getD 0 [] = oneL n) (hcu : ∀ h : Fin n, 1 ≤ h.val → S.getD h.val [] = cupL n h.val) : MJ n N S P Tr := by
  have B := fun i (hi : i < N) => by
    have := allB_of hb i hi
    simp only [Bool.and_eq_true] at this
    exact this
  have B2 := fun i (hi : i < N) j (hj : j < n) => by
    have := allB_of (B i hi).2 j hj
    simp only [Bool.and_eq_true] at this
    exact this
  have hlt : ∀ i j, i < N → j < n → (PT P i j).1 < N := fun i j hi hj => Nat.le_of_ble_eq_true (B2 i hi j hj).1
  refine ⟨hnN, fun i j hi hj e => ?_, tabG hn1 hn hn8 hlen hnN hS hc hlt hrow, hlt, fun i hi => ?_, fun i j hi hj => Nat.le_of_ble_eq_true (B2 i hi j hj).2, fun i hi => ?_, fun i hi => ⟨Nat.le_of_ble_eq_true (B i hi).1.1.2, Nat.le_of_ble_eq_true (B i hi).1.2⟩, h0, fun h h1 h2 => hcu ⟨h, h2⟩ h1⟩
  · rw [List.getD_eq_getElem?_getD, List.getD_eq_getElem?_getD, List.getElem?_eq_getElem (by omega), List.getElem?_eq_getElem (by omega)] at e
    exact (List.getElem_inj hnd).1 e
  · have : pv P i 0 = 4 * i := Nat.eq_of_beq_eq_true (B i hi).1.1.1
    unfold PT; rw [this]; exact Prod.ext (by simp only; omega) (by simp only; omega)
  · have hl : i < S.length := by omega
    have := rightOne_of S 0 hr i hl
    rw [Nat.zero_add] at this
    rwa [show S.getD i [] = S[i] by rw [List.getD_eq_getElem?_getD, List.getElem?_eq_getElem hl]; rfl]
theorem mj2 : MJ 2 2 mS2 mP2 mT2 := mj_of (C := mC2) (by decide) (by decide) (by decide) (by decide +kernel) (by decide) (by decide +kernel) (by decide +kernel) (by decide +kernel) (by decide +kernel) (by decide +kernel) right2 ones2 cups2
theorem mj3 : MJ 3 5 mS3 mP3 mT3 := mj_of (C := mC3) (by decide) (by decide) (by decide) (by decide +kernel) (by decide) (by decide +kernel) (by decide +kernel) (by decide +kernel) (by decide +kernel) (by decide +kernel) right3 ones3 cups3
theorem mj4 : MJ 4 14 mS4 mP4 mT4 := mj_of (C := mC4) (by decide) (by decide) (by decide) (by decide +kernel) (by decide) (by decide +kernel) (by decide +kernel) (by decide +kernel) (by decide +kernel) (by decide +kernel) right4 ones4 cups4
theorem mj5 : MJ 5 42 mS5 mP5 mT5 := mj_of (C := mC5) (by decide) (by decide) (by decide) (by decide +kernel) (by decide) (by decide +kernel) (by decide +kernel) (by decide +kernel) (by decide +kernel) (by decide +kernel) right5 ones5 cups5
theorem mj6 : MJ 6 132 mS6 mP6 mT6 := mj_of (C := mC6) (by decide) (by decide) (by decide) (by decide +kernel) (by decide) (by decide +kernel) (by decide +kernel) (by decide +kernel) (by decide +kernel) (by decide +kernel) right6 ones6 cups6

end Go.Proofs.Ytplekfgadbjgdaa

namespace Go.Proofs.Ytplekfgadbjgdaa
open Go.TL

def sumQ : Nat → (Nat → Rat) → Rat
  | 0, _ => 0
  | n + 1, f => sumQ n f + f n
def sumT : Nat → (Nat → Nat) → Nat
  | 0, _ => 0
  | n + 1, f => sumT n f + f n
theorem sumQ_congr {n : Nat} {f g : Nat → Rat} (h : ∀ i, i < n → f i = g i) : sumQ n f = sumQ n g := by
  induction n with
  | zero => rfl
  | succ n ih => rw [sumQ, sumQ, ih fun i hi => h i (by omega), h n (by omega)]
theorem sumT_congr {n : Nat} {f g : Nat → Nat} (h : ∀ i, i < n → f i = g i) : sumT n f = sumT n g := by
  induction n with
  | zero => rfl
  | succ n ih => rw [sumT, sumT, ih fun i hi => h i (by omega), h n (by omega)]
theorem sumQ_zero (n : Nat) : sumQ n (fun _ => 0) = 0 := by
  induction n with
  | zero => rfl
  | succ n ih => rw [sumQ, ih, Rat.add_zero]
theorem sumT_zero (n : Nat) : sumT n (fun _ => 0) = 0 := by
  induction n with
  | zero => rfl
  | succ n ih => rw [sumT, ih]
theorem sumQ_add (n : Nat) (f g : Nat → Rat) : sumQ n (fun i => f i + g i) = sumQ n f + sumQ n g := by
  induction n with
  | zero => simp only [sumQ]; rw [Rat.add_zero]
  | succ n ih => simp only [sumQ, ih]; grind
theorem sumQ_mul (n : Nat) (c : Rat) (f : Nat → Rat) : sumQ n (fun i => c * f i) = c * sumQ n f := by
  induction n with
  | zero => simp [sumQ]
  | succ n ih => simp only [sumQ, ih]; grind
theorem sumT_le {n : Nat} {f g : Nat → Nat} (h : ∀ i, i < n → f i ≤ g i) : sumT n f ≤ sumT n g := by
  induction n with
  | zero => exact Nat.le_refl _
  | succ n ih => rw [sumT, sumT]; have := ih fun i hi => h i (by omega); have := h n (by omega); omega
theorem le_sumT {n : Nat} (f : Nat → Nat) {i : Nat} (hi : i < n) : f i ≤ sumT n f := by
  induction n with
  | zero => omega
  | succ n ih =>
    rw [sumT]
    by_cases e : i = n
    · subst e; omega
    · have := ih (by omega); omega
/-- One value more. -/
theorem sumQ_upd {n : Nat} {f g : Nat → Rat} {i : Nat} (hi : i < n) (h : ∀ j, j < n → j ≠ i → f j = g j) : sumQ n f = sumQ n g + (f i - g i) := by
  induction n with
  | zero => omega
  | succ n ih =>
    rw [sumQ, sumQ]
    by_cases e : i = n
    · subst e
      rw [sumQ_congr (g := g) fun j hj => h j (by omega) (by omega)]; grind
    · rw [ih (by omega) fun j hj => h j (by omega), h n (by omega) (fun e2 => e e2.symm)]; grind
theorem sumT_upd {n : Nat} {f g : Nat → Nat} {i : Nat} (hi : i < n) (h : ∀ j, j < n → j ≠ i → f j = g j) : sumT n f + g i = sumT n g + f i := by
  induction n with
  | zero => omega
  | succ n ih =>
    rw [sumT, sumT]
    by_cases e : i = n
    · subst e
      rw [sumT_congr (g := g) fun j hj => h j (by omega) (by omega)]; omega
    · have := ih (by omega) fun j hj => h j (by omega)
      have := h n (by omega) (fun e2 => e e2.symm); omega
theorem sumQ_one {n : Nat} {f : Nat → Rat} {i : Nat} (hi : i < n) (h : ∀ j, j < n → j ≠ i → f j = 0) : sumQ n f = f i := by
  rw [sumQ_upd (g := fun _ => 0) hi h, sumQ_zero]; grind
theorem sumQ_swap (n m : Nat) (f : Nat → Nat → Rat) : sumQ n (fun i => sumQ m (fun j => f i j)) = sumQ m (fun j => sumQ n (fun i => f i j)) := by
  induction n with
  | zero => simp only [sumQ]; rw [sumQ_zero]
  | succ n ih => simp only [sumQ, ih]; rw [sumQ_add]

/-! ### The factor of loops -/
def loopP : LP := trimP (-2) [-1, 0, 0, 0, -1]
def powP : Nat → LP
  | 0 => pterm 1 0
  | k + 1 => pmul (powP k) loopP
def dl (t : Rat) : Rat := t ^ (-2 : Int) * (-1 + t ^ 4 * -1)
theorem ev_loopP {t : Rat} (ht : t ≠ 0) : ev loopP t = dl t := by
  unfold loopP dl
  rw [ev_trimP _ _ ht]
  simp only [evL]
  grind
theorem powP_trimmed : ∀ k, Trimmed (powP k)
  | 0 => pterm_trimmed _ _
  | _ + 1 => pmul_trimmed _ _
theorem ev_powP {t : Rat} (ht : t ≠ 0) : ∀ k, ev (powP k) t = dl t ^ k
  | 0 => by rw [powP, ev_pterm _ _ ht]; simp
  | k + 1 => by rw [powP, ev_pmul _ _ ht, ev_powP ht k, ev_loopP ht, Rat.pow_succ]
theorem within_powP : ∀ k : Nat, Within (powP k) (-(2 * (k : Int))) (2 * (k : Int) + 1)
  | 0 => by simpa [powP] using within_pterm 1 0
  | k + 1 => (within_pmul (within_powP k) (within_trimP (-2) [-1, 0, 0, 0, -1])).mono (by omega) (by simp; omega)
theorem n1_powP : ∀ k, n1 (powP k).c ≤ 2 ^ k
  | 0 => by simpa [powP] using n1_pterm 1 0
  | k + 1 => by
    refine Nat.le_trans (n1_pmul _ _) ?_
    rw [Nat.pow_succ]
    exact Nat.mul_le_mul (n1_powP k) (Nat.le_trans (n1_trimP _ _) (by simp [n1]))

/-- The exponent that a letter and a choice (0: the identity, 1: the generator) bring. -/
def exJ (x : Int) (c : Nat) : Int := if (decide (c = 0) != decide (0 < x)) = true then -1 else 1
def wtP (x : Int) (c l : Nat) : LP := pmul (pterm 1 (exJ x c)) (powP l)
theorem exJ_or (x : Int) (c : Nat) : exJ x c = 1 ∨ exJ x c = -1 := by unfold exJ; split <;> simp
theorem ev_wtP {t : Rat} (ht : t ≠ 0) (x : Int) (c l : Nat) : ev (wtP x c l) t = t ^ exJ x c * dl t ^ l := by
  unfold wtP; rw [ev_pmul _ _ ht, ev_pterm _ _ ht, ev_powP ht]; simp
theorem within_wtP (x : Int) (c l : Nat) (hl : l ≤ 1) : Within (wtP x c l) (-3) 4 := by
  have h := within_pmul (within_pterm 1 (exJ x c)) (within_powP l)
  rcases exJ_or x c with e | e <;> rw [e] at h <;> unfold wtP <;> rw [e] <;> exact h.mono (by omega) (by omega)
theorem n1_wtP (x : Int) (c l : Nat) : n1 (wtP x c l).c ≤ 2 ^ l := by
  refine Nat.le_trans (n1_pmul _ _) ?_
  have h1 := n1_pterm 1 (exJ x c)
  have h2 := n1_powP l
  calc n1 (pterm 1 (exJ x c)).c * n1 (powP l).c ≤ 1 * 2 ^ l := Nat.mul_le_mul (by simpa using h1) h2
    _ = 2 ^ l := Nat.one_mul _

/-! ### Vectors of polynomials -/
/-- The vector q reads as F, its polynomials fit. -/
structure JA (N M T : Nat) (q : Nat → LP) (F : Rat → Nat → Rat) : Prop where
  tr : ∀ i, i < N → Trimmed (q i)
  wi : ∀ i, i < N → Within (q i) (-(M : Int)) (M + 1)
  sum : sumT N (fun i => n1 (q i).c) ≤ T
  val : ∀ t : Rat, t ≠ 0 → ∀ i, i < N → ev (q i) t = F t i
def updP (q : Nat → LP) (j : Nat) (p : LP) : Nat → LP := fun i => if i = j then p else q i
theorem JA.add {N M T k : Nat} {q : Nat → LP} {F : Rat → Nat → Rat} {p : LP} {g : Rat → Rat} {j : Nat} (h : JA N M T q F) (hj : j < N) (hw : Within p (-(M : Int)) (M + 1)) (hn : n1 p.c ≤ k) (hg : ∀ t : Rat, t ≠ 0 → ev p t = g t) :
    JA N M (T + k) (updP q j (padd (q j) p 1)) (fun t i => F t i + if i = j then g t else 0) := by
  refine ⟨fun i hi => ?_, fun i hi => ?_, ?_, fun t ht i hi => ?_⟩
  · unfold updP; split
    · exact padd_trimmed _ _ _
    · exact h.tr i hi
  · unfold updP; split
    · exact within_padd (h.wi j hj) hw 1
    · exact h.wi i hi
  · have h1 := sumT_upd (n := N) (f := fun i => n1 (updP q j (padd (q j) p 1) i).c) (g := fun i => n1 (q i).c) hj (fun i _ hi => by simp only [updP, if_neg hi])
    have h2 := n1_padd (q j) p 1
    have h3 := h.sum
    simp only [updP, if_true] at h1 ⊢
    have e : (1 : Int).natAbs = 1 := rfl
    rw [e, Nat.one_mul] at h2
    omega
  · unfold updP
    by_cases e : i = j
    · subst e
      rw [if_pos rfl, if_pos rfl, ev_padd _ _ _ ht, h.val t ht i hi, hg t ht]; simp
    · rw [if_neg e, if_neg e, h.val t ht i hi, Rat.add_zero]
theorem JA.congr {N M T T' : Nat} {q : Nat → LP} {F G : Rat → Nat → Rat} (h : JA N M T q F) (hT : T ≤ T') (hF : ∀ t : Rat, t ≠ 0 → ∀ i, i < N → F t i = G t i) : JA N M T' q G :=
  ⟨h.tr, h.wi, Nat.le_trans h.sum hT, fun t ht i hi => by rw [h.val t ht i hi, hF t ht i hi]⟩
theorem JA.n1_le {N M T : Nat} {q : Nat → LP} {F : Rat → Nat → Rat} (h : JA N M T q F) {i : Nat} (hi : i < N) : n1 (q i).c ≤ T := Nat.le_trans (le_sumT (fun i => n1 (q i).c) hi) h.sum
theorem ja_zero (N M : Nat) : JA N M 0 (fun _ => pzero) (fun _ _ => 0) :=
  ⟨fun _ _ => pzero_trimmed, fun _ _ => within_pzero _ _, by simp only [pzero, n1]; rw [sumT_zero]; exact Nat.le_refl _, fun _ _ _ _ => ev_pzero _⟩

/-! ### One letter -/
section
variable (P : List Nat)
/-- What entry i brings to entry j by choice c. -/
def cfJ (t : Rat) (h : Nat) (x : Int) (i c j : Nat) : Rat := if j = (PT P i (if c = 0 then 0 else h)).1 then t ^ exJ x c * dl t ^ (PT P i (if c = 0 then 0 else h)).2 else 0
def stepJ (N : Nat) (t : Rat) (x : Int) (f : Nat → Rat) (j : Nat) : Rat := sumQ N fun i => f i * (cfJ P t x.natAbs x i 0 j + cfJ P t x.natAbs x i 1 j)
def wordJ (N : Nat) (t : Rat) (xs : List Int) (f : Nat → Rat) : Nat → Rat := xs.foldl (fun g x => stepJ P N t x g) f
def unitJ (i : Nat) : Rat := if i = 0 then 1 else 0
def bracketJ (N Tr : Nat) (t : Rat) (xs : List Int) : Rat := sumQ N fun i => wordJ P N t xs unitJ i * dl t ^ (dg Tr i - 1)
/-- The entries marked by d have brought what they bring. -/
def partJ (N : Nat) (t : Rat) (x : Int) (f : Nat → Rat) (d : Nat → Bool) (j : Nat) : Rat := sumQ N fun i => if d i then f i * (cfJ P t x.natAbs x i 0 j + cfJ P t x.natAbs x i 1 j) else 0
def markJ (d : Nat → Bool) (i : Nat) : Nat → Bool := fun k => if k = i then true else d k
theorem partJ_mark {N : Nat} {t : Rat} {x : Int} {f : Nat → Rat} {d : Nat → Bool} {i j : Nat} (hi : i < N) (hd : d i = false) :
    partJ P N t x f (markJ d i) j = partJ P N t x f d j + f i * (cfJ P t x.natAbs x i 0 j + cfJ P t x.natAbs x i 1 j) := by
  unfold partJ
  rw [sumQ_upd (g := fun k => if d k then f k * (cfJ P t x.natAbs x k 0 j + cfJ P t x.natAbs x k 1 j) else 0) hi (fun k _ hk => by simp only [markJ, if_neg hk])]
  simp only [markJ, if_true, hd]
  grind
theorem partJ_all {N : Nat} {t : Rat} {x : Int} {f : Nat → Rat} {d : Nat → Bool} {j : Nat} (h : ∀ i, i < N → d i = false → f i = 0) : partJ P N t x f d j = stepJ P N t x f j := by
  unfold partJ stepJ
  refine sumQ_congr fun i hi => ?_
  cases hd : d i with
  | true => rfl
  | false => rw [h i hi hd]; simp
theorem partJ_none {N : Nat} {t : Rat} {x : Int} {f : Nat → Rat} {j : Nat} : partJ P N t x f (fun _ => false) j = 0 := by
  unfold partJ
  rw [sumQ_congr (g := fun _ => 0) (fun i _ => by simp), sumQ_zero]
def massJ (N : Nat) (q : Nat → LP) (d : Nat → Bool) : Nat := sumT N fun i => if d i then n1 (q i).c else 0
theorem massJ_mark {N : Nat} {q : Nat → LP} {d : Nat → Bool} {i : Nat} (hi : i < N) (hd : d i = false) : massJ N q (markJ d i) = massJ N q d + n1 (q i).c := by
  unfold massJ
  have := sumT_upd (n := N) (f := fun k => if markJ d i k then n1 (q k).c else 0) (g := fun k => if d k then n1 (q k).c else 0) hi (fun k _ hk => by simp only [markJ, if_neg hk])
  simp only [markJ, if_true, hd] at this ⊢
  simp at this ⊢
  omega
theorem massJ_le (N : Nat) (q : Nat → LP) (d : Nat → Bool) : massJ N q d ≤ sumT N fun i => n1 (q i).c := sumT_le fun i _ => by split <;> omega
end
/-- One choice of one entry. -/
theorem ja_choice {N M T : Nat} {q : Nat → LP} {F G : Rat → Nat → Rat} {p : LP} {f : Rat → Rat} {x : Int} {j c l : Nat} (h : JA N (M + 3) T q F) (hj : j < N) (hl : l ≤ 1)
    (hw : Within p (-(M : Int)) (M + 1)) (hf : ∀ t : Rat, t ≠ 0 → ev p t = f t)
    (hG : ∀ t : Rat, t ≠ 0 → ∀ k, k < N → G t k = F t k + f t * (if k = j then t ^ exJ x c * dl t ^ l else 0)) :
    JA N (M + 3) (T + n1 p.c * 2 ^ l) (updP q j (padd (q j) (pmul p (wtP x c l)) 1)) G := by
  refine (h.add hj (p := pmul p (wtP x c l)) (k := n1 p.c * 2 ^ l) (g := fun t => f t * (t ^ exJ x c * dl t ^ l)) ?_ ?_ ?_).congr (Nat.le_refl _) ?_
  · exact (within_pmul hw (within_wtP x c _ hl)).mono (by omega) (by omega)
  · exact Nat.le_trans (n1_pmul _ _) (Nat.mul_le_mul (Nat.le_refl _) (n1_wtP _ _ _))
  · intro t ht; rw [ev_pmul _ _ ht, ev_wtP ht, hf t ht]
  · intro t ht k hk
    rw [hG t ht k hk]
    by_cases e : k = j
    · rw [if_pos e, if_pos e]
    · rw [if_neg e, if_neg e, Rat.mul_zero]

/-! ### The end: all entries closed -/
def outJ (N Tr : Nat) (t : Rat) (f : Nat → Rat) (d : Nat → Bool) : Rat := sumQ N fun i => if d i then f i * dl t ^ (dg Tr i - 1) else 0
structure OutOK (N Tr k : Nat) (q : Nat → LP) (d : Nat → Bool) (f : Rat → Nat → Rat) (out : LP) : Prop where
  tr : Trimmed out
  wi : Within out (-(3 * (k : Int) + 10)) (3 * (k : Int) + 11)
  mass : n1 out.c ≤ 32 * massJ N q d
  val : ∀ t : Rat, t ≠ 0 → ev out t = outJ N Tr t (f t) d
theorem outOK_zero {N Tr k : Nat} {q : Nat → LP} {f : Rat → Nat → Rat} : OutOK N Tr k q (fun _ => false) f pzero := by
  refine ⟨pzero_trimmed, within_pzero _ _, by simp [pzero, n1], fun t _ => ?_⟩
  rw [ev_pzero]
  unfold outJ
  rw [sumQ_congr (g := fun _ => 0) (fun i _ => by simp), sumQ_zero]
theorem OutOK.add {N Tr k i l : Nat} {q : Nat → LP} {d : Nat → Bool} {f : Rat → Nat → Rat} {out : LP} {T : Nat} (h : OutOK N Tr k q d f out) (hJ : JA N (3 * k) T q f) (hi : i < N) (hd : d i = false) (hl : l = dg Tr i - 1) (h5 : l ≤ 5) :
    OutOK N Tr k q (markJ d i) f (padd out (pmul (q i) (powP l)) 1) := by
  refine ⟨padd_trimmed _ _ _, within_padd h.wi ((within_pmul (hJ.wi i hi) (within_powP l)).mono (by omega) (by omega)) 1, ?_, fun t ht => ?_⟩
  · rw [massJ_mark hi hd]
    have h1 := n1_padd out (pmul (q i) (powP l)) 1
    have h2 := n1_pmul (q i) (powP l)
    have h3 : 2 ^ l ≤ 32 := by
      calc 2 ^ l ≤ 2 ^ 5 := Nat.pow_le_pow_right (by decide) h5
        _ = 32 := rfl
    have h4 := Nat.mul_le_mul (Nat.le_refl (n1 (q i).c)) (Nat.le_trans (n1_powP l) h3)
    have h5 := h.mass
    have e : (1 : Int).natAbs = 1 := rfl
    rw [e, Nat.one_mul] at h1
    omega
  · rw [ev_padd _ _ _ ht, ev_pmul _ _ ht, ev_powP ht, h.val t ht, hJ.val t ht i hi]
    unfold outJ
    rw [sumQ_upd (f := fun k => if markJ d i k then f t k * dl t ^ (dg Tr k - 1) else 0) (g := fun k => if d k then f t k * dl t ^ (dg Tr k - 1) else 0) hi (fun k _ hk => by simp only [markJ, if_neg hk])]
    simp only [markJ, if_true, hd, ← hl]
    grind
theorem OutOK.all {N Tr k : Nat} {P : List Nat} {q : Nat → LP} {d : Nat → Bool} {xs : List Int} {out : LP} {T : Nat} (h : OutOK N Tr k q d (fun t => wordJ P N t xs unitJ) out) (hJ : JA N (3 * k) T q (fun t => wordJ P N t xs unitJ)) (hd : ∀ i, i < N → d i = false → q i = pzero) :
    n1 out.c ≤ T * 32 ∧ ∀ t : Rat, t ≠ 0 → ev out t = bracketJ P N Tr t xs := by
  refine ⟨?_, fun t ht => ?_⟩
  · have := massJ_le N q d
    have := hJ.sum
    have := h.mass
    omega
  · rw [h.val t ht]
    unfold outJ bracketJ
    refine sumQ_congr fun i hi => ?_
    cases hdi : d i with
    | true => rfl
    | false =>
      have := hJ.val t ht i hi
      rw [hd i hi hdi, ev_pzero] at this
      rw [← this]; simp

/-! ### The two choices of one entry, and the end of a letter -/
def choJ (P : List Nat) (t : Rat) (x : Int) (y : Rat) (i c j : Nat) : Rat := (if 0 < c then y * cfJ P t x.natAbs x i 0 j else 0) + (if 1 < c then y * cfJ P t x.natAbs x i 1 j else 0)
def choM (a c : Nat) : Nat := if c = 0 then 0 else if c = 1 then a else 3 * a
theorem ja_two {n N k T : Nat} {S : List (List Nat)} {P : List Nat} {Tr : Nat} (H : MJ n N S P Tr) {q q' : Nat → LP} {F f : Rat → Nat → Rat} {x : Int} {i c a g : Nat} (hg : g = if c = 0 then 0 else x.natAbs) (hc : c < 2) (hi : i < N) (hx : x.natAbs < n) (hJ : JA N (3 * k) T q f)
    {T' : Nat} (ha : a = n1 (q i).c) (hJ' : JA N (3 * k + 3) (T' + choM a c) q' (fun t j => F t j + choJ P t x (f t i) i c j)) :
    JA N (3 * k + 3) (T' + choM a (c + 1)) (updP q' (PT P i g).1 (padd (q' (PT P i g).1) (pmul (q i) (wtP x c (PT P i g).2)) 1)) (fun t j => F t j + choJ P t x (f t i) i (c + 1) j) := by
  have hgn : g < n := by rw [hg]; split <;> omega
  have hl := H.gl i g hi hgn
  have h := ja_choice (M := 3 * k) (x := x) (c := c) (l := (PT P i g).2) (p := q i) (f := fun t => f t i) (G := fun t j => F t j + choJ P t x (f t i) i (c + 1) j) hJ' (H.lt i g hi hgn) hl ((hJ.wi i hi).mono (by omega) (by omega)) (fun t ht => hJ.val t ht i hi) (fun t ht j hj => ?_)
  · refine h.congr ?_ (fun _ _ _ _ => rfl)
    rw [← ha]
    rcases (by omega : c = 0 ∨ c = 1) with rfl | rfl
    · rw [if_pos rfl] at hg
      have : (PT P i g).2 = 0 := by rw [hg, H.eno i hi]
      rw [this]; simp [choM]
    · have : 2 ^ (PT P i g).2 ≤ 2 := by
        calc 2 ^ (PT P i g).2 ≤ 2 ^ 1 := Nat.pow_le_pow_right (by decide) hl
          _ = 2 := rfl
      have h2 := Nat.mul_le_mul (Nat.le_refl a) this
      simp only [choM]
      simp
      omega
  · show F t j + _ = F t j + choJ P t x (f t i) i c j + f t i * _
    unfold choJ cfJ
    rcases (by omega : c = 0 ∨ c = 1) with rfl | rfl
    · simp only [if_true] at hg
      subst hg
      simp
      try grind
    · simp only [Nat.one_ne_zero, if_false] at hg
      subst hg
      simp
      grind
theorem ja_mark {N k : Nat} {P : List Nat} {q q' : Nat → LP} {d : Nat → Bool} {f : Rat → Nat → Rat} {x : Int} {i a : Nat} (hi : i < N) (hd : d i = false) (ha : a = n1 (q i).c)
    (h : JA N (3 * k + 3) (3 * massJ N q d + choM a 2) q' (fun t j => partJ P N t x (f t) d j + choJ P t x (f t i) i 2 j)) : JA N (3 * k + 3) (3 * massJ N q (markJ d i)) q' (fun t => partJ P N t x (f t) (markJ d i)) := by
  refine h.congr ?_ fun t _ j _ => ?_
  · rw [massJ_mark hi hd, ← ha]; simp [choM]; omega
  · rw [partJ_mark P hi hd]
    unfold choJ
    simp
    grind
theorem ja_first {N k T : Nat} {P : List Nat} {q' : Nat → LP} {F : Rat → Nat → Rat} {f : Rat → Nat → Rat} {x : Int} {i a : Nat} (h : JA N (3 * k + 3) T q' F) : JA N (3 * k + 3) (T + choM a 0) q' (fun t j => F t j + choJ P t x (f t i) i 0 j) :=
  h.congr (by simp [choM]) fun t _ j _ => by unfold choJ; simp; grind
theorem ja_next {N k : Nat} {P : List Nat} {q q' : Nat → LP} {d : Nat → Bool} {x : Int} {xs : List Int} (hJ : JA N (3 * k) (3 ^ k) q (fun t => wordJ P N t (xs.take k) unitJ))
    (hJ' : JA N (3 * k + 3) (3 * massJ N q d) q' (fun t => partJ P N t x (wordJ P N t (xs.take k) unitJ) d)) (hd : ∀ i, i < N → d i = false → q i = pzero) (ht : xs.take (k + 1) = xs.take k ++ [x]) :
    JA N (3 * (k + 1)) (3 ^ (k + 1)) q' (fun t => wordJ P N t (xs.take (k + 1)) unitJ) := by
  have e : 3 * k + 3 = 3 * (k + 1) := by omega
  rw [e] at hJ'
  refine hJ'.congr ?_ fun t ht0 j _ => ?_
  · have := massJ_le N q d
    have := hJ.sum
    rw [Nat.pow_succ]; omega
  · have e2 : wordJ P N t (xs.take k ++ [x]) unitJ = stepJ P N t x (wordJ P N t (xs.take k) unitJ) := by
      unfold wordJ
      rw [List.foldl_append]; rfl
    rw [ht, e2]
    refine partJ_all P fun i hi hdi => ?_
    rw [← hJ.val t ht0 i hi, hd i hi hdi, ev_pzero]

end Go.Proofs.Ytplekfgadbjgdaa

namespace Go.Proofs.Ytplekfgadbjgdaa
open Go.RowKit Go.Sl Go.Mp Go.ChangeMaps

/-- A polynomial's value in the world. -/
def PolyV (w : World) (v : Value) (p : LP) : Prop := ∃ s, v = .agg #[.int .i64 p.low, s] ∧ Ints w s p.c
/-- The matchings of a table as keys. -/
structure KeysOK (N : Nat) (S : List (List Nat)) : Prop where
  inj : ∀ i j, i < N → j < N → keyV (S.getD i []) = keyV (S.getD j []) → i = j
  isK : ∀ i, i < N → IsK Try.prog 157 (keyV (S.getD i []))
theorem MJ.keys {n N : Nat} {S : List (List Nat)} {P : List Nat} {Tr : Nat} (H : MJ n N S P Tr) (h6 : n ≤ 6) : KeysOK N S := by
  have hl : ∀ i, i < N → (S.getD i []).length = 2 * n ∧ ∀ x ∈ S.getD i [], x ≤ 1000000 := fun i hi => by
    have h := TOk.of (H.right i hi).2.2
    refine ⟨h.len, fun x hx => ?_⟩
    obtain ⟨k, hk, rfl⟩ := List.getElem_of_mem hx
    have hb := h.lt k (by have := h.len; omega)
    rw [List.getD_eq_getElem?_getD, List.getElem?_eq_getElem hk] at hb
    have : (S.getD i [])[k] < 2 * n := hb
    omega
  exact ⟨fun i j hi hj e => H.inj i j hi hj (keyV_inj (by rw [(hl i hi).1, (hl j hj).1]) e), fun i hi => isK_keyV _ (by rw [(hl i hi).1]; omega) (hl i hi).2⟩

def Ents (S : List (List Nat)) (N : Nat) (w : World) (m : Value → Option Value) (q : Nat → LP) : Prop :=
  (∀ key v, m key = some v → ∃ i, i < N ∧ key = keyV (S.getD i []) ∧ PolyV w v (q i)) ∧ ∀ i, i < N → m (keyV (S.getD i [])) = none → q i = pzero
/-- Block b is a map that reads as the vector q. -/
def MapP (S : List (List Nat)) (N : Nat) (w : World) (b : Nat) (q : Nat → LP) : Prop := ∃ n m, MapV Try.prog 157 w b n m ∧ Ents S N w m q
/-- A range over it is under way; d marks what has come. -/
def RangeP (S : List (List Nat)) (N : Nat) (w : World) (b r : Nat) (q : Nat → LP) (d : Nat → Bool) (cnt : Nat) : Prop :=
  ∃ n m left, RangeV Try.prog 157 w b r n m left cnt ∧ Ents S N w m q ∧ ∀ i, i < N → (left (keyV (S.getD i [])) ↔ d i = false)

section
variable {S : List (List Nat)} {N b r cnt : Nat} {w w' : World} {q : Nat → LP} {d : Nat → Bool} {m : Value → Option Value}
theorem PolyV.below {v : Value} {p : LP} (h : PolyV w v p) (hb : Below w.heap.size w w') : PolyV w' v p := by obtain ⟨s, e, hs⟩ := h; exact ⟨s, e, hs.below hb⟩
theorem PolyV.grown_map {v : Value} {p : LP} (h : PolyV w v p) (hg : w.grownBy w' (some b)) (hb : IsMapB w b) : PolyV w' v p := by obtain ⟨s, e, hs⟩ := h; exact ⟨s, e, Sl_grown_map hs hg hb⟩
theorem PolyV.grown_iter {v : Value} {p : LP} (h : PolyV w v p) (hg : w.grownBy w' (some r)) (hb : ∃ x y z u, w.heap[r]? = some (.mapIter x y z u)) : PolyV w' v p := by obtain ⟨s, e, hs⟩ := h; exact ⟨s, e, Sl_grown_iter hs hg hb⟩
theorem Ents.below (h : Ents S N w m q) (hb : Below w.heap.size w w') : Ents S N w' m q :=
  ⟨fun key v hm => by obtain ⟨i, a, c, e⟩ := h.1 key v hm; exact ⟨i, a, c, e.below hb⟩, h.2⟩
theorem Ents.grown_map (h : Ents S N w m q) (hg : w.grownBy w' (some b)) (hb : IsMapB w b) : Ents S N w' m q :=
  ⟨fun key v hm => by obtain ⟨i, a, c, e⟩ := h.1 key v hm; exact ⟨i, a, c, e.grown_map hg hb⟩, h.2⟩
theorem Ents.grown_iter (h : Ents S N w m q) (hg : w.grownBy w' (some r)) (hb : ∃ x y z u, w.heap[r]? = some (.mapIter x y z u)) : Ents S N w' m q :=
  ⟨fun key v hm => by obtain ⟨i, a, c, e⟩ := h.1 key v hm; exact ⟨i, a, c, e.grown_iter hg hb⟩, h.2⟩
theorem MapP.isMap (h : MapP S N w b q) : IsMapB w b := by obtain ⟨n, m, h, _⟩ := h; exact h.isMap
theorem MapP.lt (h : MapP S N w b q) : b < w.heap.size := by obtain ⟨n, m, h, _⟩ := h; exact h.lt
theorem MapP.below (h : MapP S N w b q) (hb : Below w.heap.size w w') : MapP S N w' b q := by obtain ⟨n, m, h, e⟩ := h; exact ⟨n, m, h.below hb, e.below hb⟩
theorem MapP.grown_map {c : Nat} (h : MapP S N w b q) (hg : w.grownBy w' (some c)) (hc : IsMapB w c) (hne : b ≠ c) : MapP S N w' b q := by
  obtain ⟨n, m, h, e⟩ := h; exact ⟨n, m, h.kept hg (by simpa using hne), e.grown_map hg hc⟩
theorem MapP.grown_iter (h : MapP S N w b q) (hg : w.grownBy w' (some r)) (hr : ∃ x y z u, w.heap[r]? = some (.mapIter x y z u)) : MapP S N w' b q := by
  have hne : b ≠ r := by
    obtain ⟨es, c, hb⟩ := h.isMap
    obtain ⟨x, y, z, u, hr⟩ := hr
    rintro rfl
    rw [hb] at hr; cases hr
  obtain ⟨n, m, h, e⟩ := h; exact ⟨n, m, h.kept hg (by simpa using hne), e.grown_iter hg hr⟩
theorem mapP_made (w : World) : MapP S N (w.alloc (.map #[] 0)) w.heap.size (fun _ => pzero) := ⟨0, _, mapV_made w, fun _ _ h => (by cases h), fun _ _ _ => rfl⟩
theorem jzero (w : World) : (zeroValue 40).run Try.prog w = .ok (.agg #[.int .i64 0, .slice none 0 0]) w := by kernel_rfl
theorem MapP.look (h : MapP S N w b q) (K : KeysOK N S) {j : Nat} (hj : j < N) :
    ∃ s, (Instr.lookup 159 (.map (some b)) (keyV (S.getD j [])) false).run Try.prog w = .ok (.agg #[.int .i64 (q j).low, s]) w ∧ Ints w s (q j).c := by
  obtain ⟨n, m, h, e1, e2⟩ := h
  have hl := h.look false jkey Try.underlying159 (jzero w) (K.isK j hj)
  rw [if_neg (by decide)] at hl
  cases hm : m (keyV (S.getD j [])) with
  | none =>
    rw [hm] at hl
    rw [e2 j hj hm]
    exact ⟨.slice none 0 0, hl, ints_nil w⟩
  | some v =>
    rw [hm] at hl
    obtain ⟨i, hi, hk, s, rfl, hs⟩ := e1 _ _ hm
    have := K.inj j i hj hi hk
    subst this
    exact ⟨s, hl, hs⟩
theorem MapP.stored (K : KeysOK N S) {n' : Nat} {m m' : Value → Option Value} (h : Ents S N w m q) (hb : IsMapB w b) {j : Nat} (hj : j < N) {v : Value} {p : LP} (hp : PolyV w v p) (hv : MapV Try.prog 157 w' b n' m') (h1 : m' (keyV (S.getD j [])) = some v) (h2 : ∀ key', key' ≠ keyV (S.getD j []) → m' key' = m key') (hg : w.grownBy w' (some b)) : MapP S N w' b (updP q j p) := by
  have hE := h.grown_map hg hb
  refine ⟨n', m', hv, fun key u hu => ?_, fun i hi hn => ?_⟩
  · by_cases e : key = keyV (S.getD j [])
    · subst e
      rw [h1] at hu; cases hu
      exact ⟨j, hj, rfl, by rw [show updP q j p j = p by simp [updP]]; exact hp.grown_map hg hb⟩
    · rw [h2 key e] at hu
      obtain ⟨i, hi, rfl, hp'⟩ := hE.1 _ _ hu
      refine ⟨i, hi, rfl, ?_⟩
      have hij : i ≠ j := fun h => e (by rw [h])
      simp only [updP, if_neg hij]; exact hp'
  · by_cases e : i = j
    · subst e; rw [h1] at hn; cases hn
    · simp only [updP, if_neg e]
      rw [h2 _ (fun h => e (K.inj i j hi hj h))] at hn
      exact h.2 i hi hn

section
variable {ops : Array Oper} {rest : List Oper} {o : Oper} {a : Act} {Q : Exit → Act → World → Prop}
theorem step_storeE {K' : Act → World → Prop} (x y v : Operand) (hop : o.op = Op.mapUpdate 159 x y v) (K : KeysOK N S) (c : Nat) (hx : a.eval x = .map (some c)) (h : MapP S N w c q) (j : Nat) (hj : j < N) (key : Value) (hy : a.eval y = key) (hkey : keyV (S.getD j []) = key)
    (val : Value) (hv : a.eval v = val) (p : LP) (hp : PolyV w val p) (hK : ∀ w', MapP S N w' c (updP q j p) → w.grownBy w' (some c) → w'.heap.size = w.heap.size → K' (a.put o.dst undef) w') : o.wp Try.prog a w K' Q := by
  subst hkey
  obtain ⟨n, m, h0, he⟩ := h
  obtain ⟨w', m', hrun, r1, r2, r3, r4, r5⟩ := h0.store jkey Try.underlying159 val (K.isK j hj)
  have hM := MapP.stored K he h0.isMap hj hp r1 r2 r3 r4
  generalize keyV (S.getD j []) = kv at hy hrun
  unfold Oper.wp
  simp [execOp, hop, hx, hy, hv, hrun, Result.andThen]
  exact hK w' hM r4 r5
theorem wpList_insertP (hg : o.guard = none) (x y v : Operand) (hop : o.op = Op.insert 159 x y v) (K : KeysOK N S) (hx : a.eval x = .map (some b)) (h : MapP S N w b q) {j : Nat} (hj : j < N) (hy : a.eval y = keyV (S.getD j []))
    {val : Value} {p : LP} (hv : a.eval v = val) (hp : PolyV w val p) (hK : ∀ w', MapP S N w' b (updP q j p) → w.grownBy w' (some b) → w'.heap.size = w.heap.size → wpList Try.prog ops Q rest (a.put o.dst undef) w') : wpList Try.prog ops Q (o :: rest) a w := by
  obtain ⟨n, m, h0, he⟩ := h
  exact wpList_insertV hg x y v _ hop jkey Try.underlying159 hx h0 hy hv (K.isK j hj) fun w' m' g1 g2 g3 g4 g5 => hK w' (MapP.stored K he h0.isMap hj hp g1 g2 g3 g4) g4 g5
theorem wpList_rangeP (hg : o.guard = none) (x : Operand) (hop : o.op = Op.range 159 x) (hx : a.eval x = .map (some b)) (h : MapP S N w b q)
    (hK : ∀ w' cnt, RangeP S N w' b w.heap.size q (fun _ => false) cnt → Below w.heap.size w w' → w'.heap.size = w.heap.size + 1 → wpList Try.prog ops Q rest (a.put o.dst (.pointer (some ⟨w.heap.size, 0, none⟩))) w') : wpList Try.prog ops Q (o :: rest) a w := by
  obtain ⟨n, m, h0, he⟩ := h
  exact wpList_rangeV hg x _ hop Try.underlying159 hx h0 fun w' g1 g2 g3 => hK w' n ⟨n, m, _, g1, he.below g2, fun i _ => by simp⟩ g2 g3
theorem wpList_nextP (hg : o.guard = none) (it : Operand) (hop : o.op = Op.next it false) (hit : a.eval it = .pointer (some ⟨r, 0, none⟩)) (K : KeysOK N S) (h : RangeP S N w b r q d cnt)
    (hDone : (∀ i, i < N → d i = false → q i = pzero) → wpList Try.prog ops Q rest (a.put o.dst (.tuple #[.bool false])) w)
    (hMore : ∀ i s w' cnt', i < N → d i = false → Ints w' s (q i).c → RangeP S N w' b r q (markJ d i) cnt' → cnt' < cnt → w.grownBy w' (some r) → w'.heap.size = w.heap.size →
      (Instr.entry (.pointer (some ⟨r, 0, none⟩))).run Try.prog w' = .ok (.tuple #[.agg (keyC (S.getD i [])), .agg #[.int .i64 (q i).low, s]]) w' → wpList Try.prog ops Q rest (a.put o.dst (.tuple #[.bool true, .agg (keyC (S.getD i [])), .agg #[.int .i64 (q i).low, s]])) w') : wpList Try.prog ops Q (o :: rest) a w := by
  obtain ⟨n, m, left, h0, he, hd⟩ := h
  refine wpList_nextV hg it hop hit h0 (fun _ hl => hDone fun i hi hdi => ?_) (fun key v w' cnt' hm hlk hr hc hg' hs hen => ?_)
  · refine he.2 i hi ?_
    cases hm : m (keyV (S.getD i [])) with
    | none => rfl
    | some v => exact absurd ((hd i hi).2 hdi) (hl _ _ hm)
  · have he' := he.grown_iter hg' h0.iter
    obtain ⟨i, hi, rfl, s, rfl, hs'⟩ := he'.1 _ _ hm
    refine hMore i s w' cnt' hi ((hd i hi).1 hlk) hs' ⟨n, m, _, hr, he', fun k hk => ?_⟩ hc hg' hs hen
    unfold markJ
    by_cases e : k = i
    · subst e; simp
    · rw [if_neg e]
      exact ⟨fun h => (hd k hk).1 h.1, fun h => ⟨(hd k hk).2 h, fun h2 => e (K.inj k i hk hi h2)⟩⟩
end
theorem RangeP.below (h : RangeP S N w b r q d cnt) (hb : Below w.heap.size w w') : RangeP S N w' b r q d cnt := by
  obtain ⟨n, m, left, h0, he, hd⟩ := h; exact ⟨n, m, left, h0.below hb, he.below hb, hd⟩
theorem RangeP.grown_map {c : Nat} (h : RangeP S N w b r q d cnt) (hg : w.grownBy w' (some c)) (hc : IsMapB w c) (hne : b ≠ c) : RangeP S N w' b r q d cnt := by
  obtain ⟨n, m, left, h0, he, hd⟩ := h
  have hr : r ≠ c := by
    obtain ⟨es, k, hb⟩ := hc
    obtain ⟨x, y, z, u, hr⟩ := h0.iter
    rintro rfl
    rw [hb] at hr; cases hr
  exact ⟨n, m, left, h0.kept hg (by simpa using hne) (by simpa using hr), he.grown_map hg hc, hd⟩
theorem RangeP.iter (h : RangeP S N w b r q d cnt) : ∃ x y z u, w.heap[r]? = some (.mapIter x y z u) := by obtain ⟨n, m, left, h0, _⟩ := h; exact h0.iter
theorem RangeP.lt (h : RangeP S N w b r q d cnt) : r < w.heap.size := by obtain ⟨n, m, left, h0, he, _⟩ := h; exact h0.lt
theorem Ints.grown_map {v : Value} {xs : List Int} (h : Ints w v xs) (hg : w.grownBy w' (some b)) (hb : IsMapB w b) : Ints w' v xs := Sl_grown_map h hg hb
theorem Ints.grown_iter {v : Value} {xs : List Int} (h : Ints w v xs) (hg : w.grownBy w' (some r)) (hb : ∃ x y z u, w.heap[r]? = some (.mapIter x y z u)) : Ints w' v xs := Sl_grown_iter h hg hb
/-- A block of cells stays while a map or an iterator is written. -/
theorem blk_grown_map {c : Nat} {cs : Array Value} {e : TypeId} (h : w.heap[c]? = some (.cells cs e (0, 0))) (hg : w.grownBy w' (some b)) (hb : IsMapB w b) : w'.heap[c]? = some (.cells cs e (0, 0)) := by
  have hne : some c ≠ some b := by
    obtain ⟨es, k, hb⟩ := hb
    intro e1; injection e1 with e1; subst e1
    rw [hb] at h; cases h
  exact (hg.block c (Array.getElem?_eq_some_iff.1 h).1 hne).trans h
theorem Pair.grown_map {c : Nat} {t : TypeId} {x y : Value} (h : Pair w c t x y) (hg : w.grownBy w' (some b)) (hb : IsMapB w b) : Pair w' c t x y := blk_grown_map h hg hb
theorem blk_grown_iter {c : Nat} {cs : Array Value} {e : TypeId} (h : w.heap[c]? = some (.cells cs e (0, 0))) (hg : w.grownBy w' (some r)) (hb : ∃ x y z u, w.heap[r]? = some (.mapIter x y z u)) : w'.heap[c]? = some (.cells cs e (0, 0)) := by
  have hne : some c ≠ some r := by
    obtain ⟨x, y, z, u, hb⟩ := hb
    intro e1; injection e1 with e1; subst e1
    rw [hb] at h; cases h
  exact (hg.block c (Array.getElem?_eq_some_iff.1 h).1 hne).trans h
theorem RangeP.left_eq (h : RangeP S N w b r q d cnt) : w.rangeLeft b r = cnt := by
  obtain ⟨n, m, left, ⟨es, clock, since, seen, c0, hb, _, _, _, _, hr, _, hc, _⟩, _, _⟩ := h
  simp only [World.rangeLeft, hb, hr]; exact hc
theorem Pair.grown_iter {c : Nat} {t : TypeId} {x y : Value} (h : Pair w c t x y) (hg : w.grownBy w' (some r)) (hb : ∃ x y z u, w.heap[r]? = some (.mapIter x y z u)) : Pair w' c t x y := blk_grown_iter h hg hb
/-- Two boxes: a key's and a polynomial's. -/
theorem boxes2 {D : List Nat} {lp : Int} {s : Value} (w : World) {W5 : World} (A B : Obj) (hA : ∃ o, A = .cells o 157 (0, 0)) (hB : ∃ o, B = .cells o 40 (0, 0)) (h : W5 = ((((w.alloc A).alloc B).setRow w.heap.size (keyC D)).setRow (w.heap.size + 1) #[.int .i64 lp, s])) :
    W5.heap[w.heap.size]? = some (.cells (keyC D) 157 (0, 0)) ∧ Pair W5 (w.heap.size + 1) 40 (.int .i64 lp) s ∧ Below w.heap.size w W5 ∧ W5.heap.size = w.heap.size + 2 := by
  obtain ⟨oA, rfl⟩ := hA
  obtain ⟨oB, rfl⟩ := hB
  subst h
  refine ⟨?_, ?_, ?_, ?_⟩
  · rw [setRow_other _ _ _ _ (by omega)]
    exact setRow_heap _ _ _ _ _ _ (heap_alloc2_old w _ _)
  · exact setRow_heap _ _ _ _ _ _ ((setRow_other _ _ _ _ (by omega)).trans (heap_alloc2_new w _ _))
  · exact below_setRow (below_setRow (((Below.refl _ _).alloc (Nat.le_refl _) _).alloc (by simp) _) (Nat.le_refl _) _) (by omega) _
  · simp
def HBlk (w : World) (c : Nat) (o : Obj) : Prop := w.heap[c]? = some o
theorem HBlk.below {c : Nat} {o : Obj} (h : HBlk w c o) (hb : Below w.heap.size w w') : HBlk w' c o := (hb.block c (Array.getElem?_eq_some_iff.1 h).1).trans h
/-- What stays while the sums are laid into the other map. -/
structure BJ (S : List (List Nat)) (N : Nat) (w : World) (b r : Nat) (q : Nat → LP) (d : Nat → Bool) (cnt B0 K9 K10 KR : Nat) (kc : Array Value) (lp : Int) (s v1 v2 wv : Value) (ps o1 o2 xs : List Int) : Prop where
  rng : RangeP S N w b r q d cnt
  box : Pair w B0 40 (.int .i64 0) (.slice none 0 0)
  key : w.heap[K9]? = some (.cells kc 157 (0, 0))
  p : Pair w K10 40 (.int .i64 lp) s
  ps : Ints w s ps
  rows : w.heap[KR]? = some (.cells #[v1, v2] 22 (0, 0))
  one : Ints w v1 o1
  cup : Ints w v2 o2
  word : Ints w wv xs
theorem blk_below {c : Nat} {o : Obj} (h : w.heap[c]? = some o) (hb : Below w.heap.size w w') : w'.heap[c]? = some o := (hb.block c (Array.getElem?_eq_some_iff.1 h).1).trans h
section
variable {B0 K9 K10 KR : Nat} {kc : Array Value} {lp : Int} {s v1 v2 wv : Value} {ps o1 o2 xs : List Int}
theorem BJ.below (h : BJ S N w b r q d cnt B0 K9 K10 KR kc lp s v1 v2 wv ps o1 o2 xs) (hb : Below w.heap.size w w') : BJ S N w' b r q d cnt B0 K9 K10 KR kc lp s v1 v2 wv ps o1 o2 xs :=
  ⟨h.rng.below hb, h.box.below hb, blk_below h.key hb, h.p.below hb, h.ps.below hb, blk_below h.rows hb, h.one.below hb, h.cup.below hb, h.word.below hb⟩
theorem BJ.grown (h : BJ S N w b r q d cnt B0 K9 K10 KR kc lp s v1 v2 wv ps o1 o2 xs) {c : Nat} (hg : w.grownBy w' (some c)) (hc : IsMapB w c) (hne : b ≠ c) : BJ S N w' b r q d cnt B0 K9 K10 KR kc lp s v1 v2 wv ps o1 o2 xs :=
  ⟨h.rng.grown_map hg hc hne, blk_grown_map h.box hg hc, blk_grown_map h.key hg hc, blk_grown_map h.p hg hc, Ints.grown_map h.ps hg hc, blk_grown_map h.rows hg hc, Ints.grown_map h.one hg hc, Ints.grown_map h.cup hg hc, Ints.grown_map h.word hg hc⟩
end

theorem setCell0 {c : Nat} {t : TypeId} {x y : Value} (h : Pair w c t x y) (u : Value) : (w.setCell ⟨c, 0, none⟩ u).heap[c]? = some (.cells #[u, y] t (0, 0)) := by
  unfold Pair at h
  simp [World.setCell, Array.getElem?_modify, h]
/-! The same, the polynomials read in an elder world. -/
def MapQ (S : List (List Nat)) (N : Nat) (Wo w : World) (b : Nat) (q : Nat → LP) : Prop := ∃ n m, MapV Try.prog 157 w b n m ∧ Ents S N Wo m q
def RangeQ (S : List (List Nat)) (N : Nat) (Wo w : World) (b r : Nat) (q : Nat → LP) (d : Nat → Bool) (cnt : Nat) : Prop :=
  ∃ n m left, RangeV Try.prog 157 w b r n m left cnt ∧ Ents S N Wo m q ∧ ∀ i, i < N → (left (keyV (S.getD i [])) ↔ d i = false)
section
variable {Wo : World} {ops : Array Oper} {rest : List Oper} {o : Oper} {a : Act} {Q : Exit → Act → World → Prop}
theorem MapP.toQ (h : MapP S N Wo b q) (hb : Below Wo.heap.size Wo w) : MapQ S N Wo w b q := by obtain ⟨n, m, h, e⟩ := h; exact ⟨n, m, h.below hb, e⟩
theorem RangeQ.below (h : RangeQ S N Wo w b r q d cnt) (hb : Below w.heap.size w w') : RangeQ S N Wo w' b r q d cnt := by
  obtain ⟨n, m, left, h0, he, hd⟩ := h; exact ⟨n, m, left, h0.below hb, he, hd⟩
theorem RangeQ.iter (h : RangeQ S N Wo w b r q d cnt) : ∃ x y z u, w.heap[r]? = some (.mapIter x y z u) := by obtain ⟨n, m, left, h0, _⟩ := h; exact h0.iter
theorem RangeQ.left_eq (h : RangeQ S N Wo w b r q d cnt) : w.rangeLeft b r = cnt := by
  obtain ⟨n, m, left, ⟨es, clock, since, seen, c0, hb, _, _, _, _, hr, _, hc, _⟩, _, _⟩ := h
  simp only [World.rangeLeft, hb, hr]; exact hc
theorem RangeQ.setCell (h : RangeQ S N Wo w b r q d cnt) {c : Nat} (o : Nat) (u : Value) (hc : ∃ cs e, w.heap[c]? = some (.cells cs e (0, 0))) : RangeQ S N Wo (w.setCell ⟨c, o, none⟩ u) b r q d cnt := by
  obtain ⟨n, m, left, h0, he, hd⟩ := h
  obtain ⟨cs, e, hc⟩ := hc
  have hb : b ≠ c := by
    obtain ⟨es, k, hb⟩ := h0.mapV.isMap
    rintro rfl
    rw [hc] at hb; cases hb
  have hr : r ≠ c := by
    obtain ⟨x, y, z, u, hr⟩ := h0.iter
    rintro rfl
    rw [hc] at hr; cases hr
  have hg : w.grownBy (w.setCell ⟨c, o, none⟩ u) (some c) := ⟨rfl, rfl, rfl, by simp, fun k _ hk => Below.heap_setCell w ⟨c, o, none⟩ u k (fun e => hk (by rw [e]))⟩
  exact ⟨n, m, left, h0.kept hg (by simpa using hb) (by simpa using hr), he, hd⟩
theorem wpList_rangeQ (hg : o.guard = none) (x : Operand) (hop : o.op = Op.range 159 x) (hx : a.eval x = .map (some b)) (h : MapQ S N Wo w b q)
    (hK : ∀ w' cnt, RangeQ S N Wo w' b w.heap.size q (fun _ => false) cnt → Below w.heap.size w w' → w'.heap.size = w.heap.size + 1 → wpList Try.prog ops Q rest (a.put o.dst (.pointer (some ⟨w.heap.size, 0, none⟩))) w') : wpList Try.prog ops Q (o :: rest) a w := by
  obtain ⟨n, m, h0, he⟩ := h
  exact wpList_rangeV hg x _ hop Try.underlying159 hx h0 fun w' g1 g2 g3 => hK w' n ⟨n, m, _, g1, he, fun i _ => by simp⟩ g2 g3
theorem wpList_nextQ (hg : o.guard = none) (it : Operand) (hop : o.op = Op.next it false) (hit : a.eval it = .pointer (some ⟨r, 0, none⟩)) (K : KeysOK N S) (h : RangeQ S N Wo w b r q d cnt)
    (hDone : (∀ i, i < N → d i = false → q i = pzero) → wpList Try.prog ops Q rest (a.put o.dst (.tuple #[.bool false])) w)
    (hMore : ∀ i s w' cnt', i < N → d i = false → Ints Wo s (q i).c → RangeQ S N Wo w' b r q (markJ d i) cnt' → cnt' < cnt → w.grownBy w' (some r) → w'.heap.size = w.heap.size →
      (Instr.entry (.pointer (some ⟨r, 0, none⟩))).run Try.prog w' = .ok (.tuple #[.agg (keyC (S.getD i [])), .agg #[.int .i64 (q i).low, s]]) w' → wpList Try.prog ops Q rest (a.put o.dst (.tuple #[.bool true, .agg (keyC (S.getD i [])), .agg #[.int .i64 (q i).low, s]])) w') : wpList Try.prog ops Q (o :: rest) a w := by
  obtain ⟨n, m, left, h0, he, hd⟩ := h
  refine wpList_nextV hg it hop hit h0 (fun _ hl => hDone fun i hi hdi => ?_) (fun key v w' cnt' hm hlk hr hc hg' hs hen => ?_)
  · refine he.2 i hi ?_
    cases hm : m (keyV (S.getD i [])) with
    | none => rfl
    | some v => exact absurd ((hd i hi).2 hdi) (hl _ _ hm)
  · obtain ⟨i, hi, rfl, s, rfl, hs'⟩ := he.1 _ _ hm
    refine hMore i s w' cnt' hi ((hd i hi).1 hlk) hs' ⟨n, m, _, hr, he, fun k hk => ?_⟩ hc hg' hs hen
    unfold markJ
    by_cases e : k = i
    · subst e; simp
    · rw [if_neg e]
      exact ⟨fun h => (hd k hk).1 h.1, fun h => ⟨(hd k hk).2 h, fun h2 => e (K.inj k i hk hi h2)⟩⟩
end
theorem OwnI.grown_iter {B : Nat} {v : Value} {xs : List Int} (h : OwnI w B v xs) (hg : w.grownBy w' (some r)) (hb : ∃ x y z u, w.heap[r]? = some (.mapIter x y z u)) : OwnI w' B v xs := by
  refine h.grown hg fun k hk e => ?_
  obtain ⟨x, y, z, u, hb⟩ := hb
  injection e with e
  subst e
  obtain ⟨h0, e2⟩ := row_eq hk
  obtain ⟨_, _, cur, hc, _⟩ := h.2.2 h0
  rw [e2, hb] at hc; cases hc
end
end Go.Proofs.Ytplekfgadbjgdaa

namespace Go.Proofs.Ytplekfgadbjgdaa
open Go.TL

/-- c i j: the number of matching i with matching j beside it, from strand d on; k loops more. -/
structure Beside (n m d k N1 N2 N : Nat) (P1 P2 P : List Nat) (T1 T2 T : Nat) (c : Nat → Nat → Nat) : Prop where
  zero : c 0 0 = 0
  lt : ∀ i j, i < N1 → j < N2 → c i j < N
  left : ∀ i g, i < N1 → g < n → (PT P1 i g).1 < N1 ∧ PT P (c i 0) g = (c (PT P1 i g).1 0, (PT P1 i g).2)
  right : ∀ i j g, i < N1 → j < N2 → g < m → (PT P2 j g).1 < N2 ∧ PT P (c i j) (if g = 0 then 0 else g + d) = (c i (PT P2 j g).1, (PT P2 j g).2)
  cl : ∀ i j, i < N1 → j < N2 → dg T (c i j) - 1 = (dg T1 i - 1) + (dg T2 j - 1) + k
def tabC (C : List (List Nat)) (i j : Nat) : Nat := (C.getD i []).getD j 0
def eqPT (a b : Nat × Nat) : Bool := Nat.beq a.1 b.1 && Nat.beq a.2 b.2
def besideB (n m d k N1 N2 N : Nat) (P1 P2 P : List Nat) (T1 T2 T : Nat) (c : Nat → Nat → Nat) : Bool :=
  Nat.beq (c 0 0) 0 && allB (fun i => allB (fun j => Nat.ble (c i j + 1) N && Nat.beq (dg T (c i j) - 1) ((dg T1 i - 1) + (dg T2 j - 1) + k) && allB (fun g => Nat.ble ((PT P2 j g).1 + 1) N2 && eqPT (PT P (c i j) (if g = 0 then 0 else g + d)) (c i (PT P2 j g).1, (PT P2 j g).2)) m) N2 && allB (fun g => Nat.ble ((PT P1 i g).1 + 1) N1 && eqPT (PT P (c i 0) g) (c (PT P1 i g).1 0, (PT P1 i g).2)) n) N1
theorem eqPT_of {a b : Nat × Nat} (h : eqPT a b = true) : a = b := by
  unfold eqPT at h
  rw [Bool.and_eq_true] at h
  exact Prod.ext (Nat.eq_of_beq_eq_true h.1) (Nat.eq_of_beq_eq_true h.2)
theorem beside_of {n m d k N1 N2 N : Nat} {P1 P2 P : List Nat} {T1 T2 T : Nat} {c : Nat → Nat → Nat} (h : besideB n m d k N1 N2 N P1 P2 P T1 T2 T c = true) : Beside n m d k N1 N2 N P1 P2 P T1 T2 T c := by
  unfold besideB at h
  rw [Bool.and_eq_true] at h
  have I := fun i (hi : i < N1) => by
    have := allB_of h.2 i hi
    rw [Bool.and_eq_true] at this
    exact this
  have J := fun i (hi : i < N1) j (hj : j < N2) => by
    have := allB_of (I i hi).1 j hj
    simp only [Bool.and_eq_true] at this
    exact this
  refine ⟨Nat.eq_of_beq_eq_true h.1, fun i j hi hj => Nat.le_of_ble_eq_true (J i hi j hj).1.1, fun i g hi hg => ?_, fun i j g hi hj hg => ?_, fun i j hi hj => Nat.eq_of_beq_eq_true (J i hi j hj).1.2⟩
  · have := allB_of (I i hi).2 g hg
    rw [Bool.and_eq_true] at this
    exact ⟨Nat.le_of_ble_eq_true this.1, eqPT_of this.2⟩
  · have := allB_of (J i hi j hj).2 g hg
    rw [Bool.and_eq_true] at this
    exact ⟨Nat.le_of_ble_eq_true this.1, eqPT_of this.2⟩
def cCs22 : List (List Nat) := [[0, 2], [1, 3]]
theorem beside_s22 : Beside 2 2 1 0 2 2 5 mP2 mP2 mP3 mT2 mT2 mT3 (tabC cCs22) := beside_of (by decide +kernel)
def cCa22 : List (List Nat) := [[0, 3], [1, 5]]
theorem beside_a22 : Beside 2 2 2 1 2 2 14 mP2 mP2 mP4 mT2 mT2 mT4 (tabC cCa22) := beside_of (by decide +kernel)
def cCs23 : List (List Nat) := [[0, 2, 3, 7, 8], [1, 4, 5, 9, 10]]
theorem beside_s23 : Beside 2 3 1 0 2 5 14 mP2 mP3 mP4 mT2 mT3 mT4 (tabC cCs23) := beside_of (by decide +kernel)
def cCa23 : List (List Nat) := [[0, 3, 4, 12, 13], [1, 6, 7, 17, 18]]
theorem beside_a23 : Beside 2 3 2 1 2 5 42 mP2 mP3 mP5 mT2 mT3 mT5 (tabC cCa23) := beside_of (by decide +kernel)
def cCs32 : List (List Nat) := [[0, 3], [1, 5], [2, 7], [4, 9], [6, 11]]
theorem beside_s32 : Beside 3 2 2 0 5 2 14 mP3 mP2 mP4 mT3 mT2 mT4 (tabC cCs32) := beside_of (by decide +kernel)
def cCa32 : List (List Nat) := [[0, 4], [1, 7], [2, 10], [5, 15], [8, 20]]
theorem beside_a32 : Beside 3 2 3 1 5 2 42 mP3 mP2 mP5 mT3 mT2 mT5 (tabC cCa32) := beside_of (by decide +kernel)
def cCs33 : List (List Nat) := [[0, 3, 4, 12, 13], [1, 6, 7, 17, 18], [2, 9, 10, 21, 22], [5, 14, 15, 26, 27], [8, 19, 20, 31, 32]]
theorem beside_s33 : Beside 3 3 2 0 5 5 42 mP3 mP3 mP5 mT3 mT3 mT5 (tabC cCs33) := beside_of (by decide +kernel)
def cCa33 : List (List Nat) := [[0, 4, 5, 18, 19], [1, 8, 9, 27, 28], [2, 12, 13, 35, 36], [6, 21, 22, 48, 49], [10, 30, 31, 61, 62]]
theorem beside_a33 : Beside 3 3 3 1 5 5 132 mP3 mP3 mP6 mT3 mT3 mT6 (tabC cCa33) := beside_of (by decide +kernel)
end Go.Proofs.Ytplekfgadbjgdaa


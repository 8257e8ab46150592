/- Torus links of two strands: components and linking numbers. Plain law. -/
import Derived.Test.YtckopilciekfbaaQTopTorus0
import Derived.Test.YtckopilciekfbaaQTopTorus1
import Derived.Test.YtckopilciekfbaaQTopTorus2
import Derived.Test.YtckopilciekfbaaQTopTorus3
import Derived.Test.YtckopilciekfbaaQTopTorus4
import Derived.Test.YtckopilciekfbaaQTopTorus5
import Derived.Test.YtckopilciekfbaaQTopTorus6
import Derived.Test.YtckopilciekfbaaQTopTorus7
import Derived.Test.YtckopilciekfbaaQTopTorus8
import Derived.Test.YtckopilciekfbaaQTopTorus9
import Derived.Test.YtckopilciekfbaaQTopTorus10
import Derived.Test.YtckopilciekfbaaQTopTorus11
import Derived.Test.YtckopilciekfbaaQTopTorus12
import Derived.Test.YtckopilciekfbaaQTopTorus13
import Derived.Test.YtckopilciekfbaaQTopTorus14
import Derived.Test.YtckopilciekfbaaQTopTorus15
import Derived.Test.YtckopilciekfbaaQTopTorus16
import Derived.Test.YtckopilciekfbaaQTopTorus18
import Derived.Test.YtckopilciekfbaaQTopTorus19
import Derived.Test.YtckopilciekfbaaQTopTorus20
import Derived.Test.YtckopilciekfbaaQTopTorus21
import Derived.Test.YtckopilciekfbaaQTopTorus22
import Derived.Test.YtckopilciekfbaaQTopTorus23
import Derived.Test.YtckopilciekfbaaQTopTorus24
import Derived.Test.YtckopilciekfbaaQTopTorus25
import Derived.Test.YtckopilciekfbaaQTopTorus26
import Derived.Test.YtckopilciekfbaaQTopTorus27
import Derived.Test.YtckopilciekfbaaQTopTorus28
import Derived.Test.YtckopilciekfbaaQTopTorus29
import Derived.Test.YtckopilciekfbaaQTopTorus30
import Derived.Test.YtckopilciekfbaaQTopTorus31
import Derived.Test.YtckopilciekfbaaQTopTorus32
import Derived.Test.YtckopilciekfbaaQTopTorus33
import Derived.Test.YtckopilciekfbaaQTopTorus34
import Derived.Test.YtckopilciekfbaaQTopTorus35
import Derived.Test.YtckopilciekfbaaQTopTorus36
import Derived.Test.YtckopilciekfbaaQTopTorus37
import Derived.Test.YtckopilciekfbaaQTopTorus38
import Derived.Test.YtckopilciekfbaaQTopTorus39
import Derived.Test.YtckopilciekfbaaQTopTorus40
import Derived.Test.YtckopilciekfbaaQTopTorus41
import Derived.Test.YtckopilciekfbaaQTopTorus42
import Derived.Test.YtckopilciekfbaaQTopTorus43
import Derived.Test.YtckopilciekfbaaQTopTorus44
import Derived.Test.YtckopilciekfbaaQTopTorus45
import Derived.Test.YtckopilciekfbaaQTopTorus46
import Derived.Test.YtckopilciekfbaaQTopTorus47
import Derived.Test.YtckopilciekfbaaQTopTorus48
import Derived.Test.YtckopilciekfbaaQTopTorus49
import Derived.Shelf.Strings.Builder1
import Derived.RangeFuncNested
import Derived.RangeFuncBound
import Derived.RangeFuncCalls
import Derived.RangeFuncLeaves
import Derived.RangeFuncBox
import Derived.Shelf.Abstract
import Derived.Shelf.RegionOpen
import Derived.OwnWalkIn
import Derived.TacticsInMore
import Derived.LoopNIn
import Derived.LoopIn
import Derived.Maps.AppendAt
import Derived.OrdersIn
import Derived.OrdersHeld
import Derived.Deep.RegionHeld
import Derived.Lib.SliceRun
namespace Go.Proofs.Ytckopilciekfbaa
open Go.RowKit Go.Sl

def torW (k : Nat) : List Int := List.replicate k 1
def altL (k : Nat) : List Int := (List.range k).map fun i => 1 - 2 * (((k - 1 - i) % 2 : Nat) : Int)
def torA (k : Nat) : Prop := ∀ i, i < 2 → ∀ j, j < 2 → ((nthp (rowM 2 (torW k) i) j).low.natAbs ≤ 100000 ∧ (nthp (rowM 2 (torW k) i) j).c.length ≤ 100000) ∧ n1 (nthp (rowM 2 (torW k) i) j).c ≤ 100000000000000
instance (k : Nat) : Decidable (torA k) := by unfold torA; infer_instance
theorem torA_all : ∀ k : Fin 21, torA k.val := by decide +kernel
def torE (k : Nat) : Bool :=
  let m := alexM 2 (torW k)
  let p := nthp (nthm m 0) 0
  let e := expandL 0 (restM 0 m)
  let f := pmul p e
  decide (p.low.natAbs ≤ 100000) && decide (p.c.length ≤ 100000) && decide (e.low.natAbs ≤ 100000) && decide (e.c.length ≤ 100000) && decide (f.low.natAbs ≤ 100000) && decide (f.c.length ≤ 100000) && decide (n1 p.c ≤ 1000) && decide (n1 e.c ≤ 1000) && decide (n1 f.c ≤ 1000)
theorem torE_all : ∀ k : Fin 21, torE k.val = true := by decide +kernel
def torX (k : Nat) : Bool :=
  let E := expandL 1 (alexM 2 (torW k))
  decide (E.c.length ≤ 200) && decide (-1000 ≤ E.low) && decide (E.low ≤ 1000) && decide (n1 E.c ≤ 1000) && decide ((pnorm E).low = 0) && decide ((pnorm E).c = altL k) && decide (n1 (altL k) ≤ 1000) && decide ((atR (-1) 0 (altL k)).natAbs = k)
theorem torX_all : ∀ k : Fin 21, 1 ≤ k.val → torX k.val = true := by decide +kernel
theorem torC_all : ∀ k : Fin 21, ∀ m : Fin 14, 1 ≤ k.val → 1 ≤ m.val → solL (smithL (matI 2 (colF m.val 2 ((1 : Int) % (m.val : Int)) (torW k.val))) 2 2) m.val 2 = m.val * Nat.gcd k.val m.val := by decide +kernel

end Go.Proofs.Ytckopilciekfbaa

namespace Go.Proofs.Ytckopilciekfbaa
open Go.RowKit Go.Sl Go.Mp Go.TL

theorem step2_0 {t : Rat} {x : Int} (hx : x.natAbs = 1) (f : Nat → Rat) : stepJ mP2 2 t x f 0 = t ^ exJ x 0 * f 0 := by
  have a00 : PT mP2 0 0 = (0, 0) := by decide +kernel
  have a01 : PT mP2 0 1 = (1, 0) := by decide +kernel
  have a10 : PT mP2 1 0 = (1, 0) := by decide +kernel
  have a11 : PT mP2 1 1 = (1, 1) := by decide +kernel
  simp only [stepJ, sumQ, cfJ, hx, if_true, Nat.one_ne_zero, if_false, a00, a01, a10, a11, show ¬ (0 : Nat) = 1 by decide, Rat.pow_zero]
  grind
theorem step2_1 {t : Rat} {x : Int} (hx : x.natAbs = 1) (f : Nat → Rat) : stepJ mP2 2 t x f 1 = t ^ exJ x 0 * f 1 + t ^ exJ x 1 * (f 0 + dl t * f 1) := by
  have a00 : PT mP2 0 0 = (0, 0) := by decide +kernel
  have a01 : PT mP2 0 1 = (1, 0) := by decide +kernel
  have a10 : PT mP2 1 0 = (1, 0) := by decide +kernel
  have a11 : PT mP2 1 1 = (1, 1) := by decide +kernel
  simp only [stepJ, sumQ, cfJ, hx, if_true, if_false, a00, a01, a10, a11, show ¬ (1 : Nat) = 0 by decide, Rat.pow_zero, Rat.pow_one]
  grind
theorem bracket2 (t : Rat) (xs : List Int) : bracketJ mP2 2 mT2 t xs = wordJ mP2 2 t xs unitJ 0 * dl t + wordJ mP2 2 t xs unitJ 1 := by
  have d0 : dg mT2 0 = 2 := by decide +kernel
  have d1 : dg mT2 1 = 1 := by decide +kernel
  simp only [bracketJ, sumQ, d0, d1]
  grind
def trefP : LP := ⟨4, [1, 0, 0, 0, 0, 0, 0, 0, 1, 0, 0, 0, -1]⟩
theorem ev_tref {t : Rat} (ht : t ≠ 0) : ev trefP t = jonesV mP2 2 mT2 t [-1, -1, -1] := by
  have e0 : exJ (-1) 0 = -1 := by decide
  have e1 : exJ (-1) 1 = 1 := by decide
  have p1 : t ^ (1 : Int) = t := by
    have h := Rat.zpow_natCast t 1
    rw [Rat.pow_one] at h
    exact h
  have m1 : t ^ (-1 : Int) = t⁻¹ := by rw [Rat.zpow_neg, p1]
  have m2 : t ^ (-2 : Int) = t⁻¹ * t⁻¹ := by rw [show (-2 : Int) = -1 + -1 by omega, Rat.zpow_add ht, m1]
  have h0 : t * t⁻¹ = 1 := Rat.mul_inv_cancel _ ht
  have s3 : sumL [-1, -1, -1] = -3 := by decide
  have sg : signJ (-3) = -1 := by decide
  have z9 : t ^ (-3 * -3 : Int) = t ^ 9 := by rw [show (-3 * -3 : Int) = ((9 : Nat) : Int) by decide]; exact Rat.zpow_natCast t 9
  have z4 : t ^ (4 : Int) = t ^ 4 := by rw [show (4 : Int) = ((4 : Nat) : Int) by decide]; exact Rat.zpow_natCast t 4
  have w0 : wordJ mP2 2 t [-1, -1, -1] unitJ 0 = t⁻¹ * t⁻¹ * t⁻¹ := by
    rw [wordJ_cons, wordJ_cons, wordJ_cons]
    show stepJ mP2 2 t (-1) _ 0 = _
    rw [step2_0 (by decide), step2_0 (by decide), step2_0 (by decide), e0, m1]
    simp only [unitJ, if_true]; grind
  have q1 : stepJ mP2 2 t (-1) unitJ 1 = t := by
    rw [step2_1 (by decide), e0, e1, p1, m1]
    simp only [unitJ, if_true, Nat.one_ne_zero, if_false]; grind
  have q0 : stepJ mP2 2 t (-1) unitJ 0 = t⁻¹ := by
    rw [step2_0 (by decide), e0, m1]
    simp only [unitJ, if_true]; grind
  have r1 : stepJ mP2 2 t (-1) (stepJ mP2 2 t (-1) unitJ) 1 = t⁻¹ * t + t * (t⁻¹ + dl t * t) := by rw [step2_1 (by decide), e0, e1, p1, m1, q1, q0]
  have r0 : stepJ mP2 2 t (-1) (stepJ mP2 2 t (-1) unitJ) 0 = t⁻¹ * t⁻¹ := by rw [step2_0 (by decide), e0, m1, q0]
  have w1 : wordJ mP2 2 t [-1, -1, -1] unitJ 1 = t⁻¹ * (t⁻¹ * t + t * (t⁻¹ + dl t * t)) + t * (t⁻¹ * t⁻¹ + dl t * (t⁻¹ * t + t * (t⁻¹ + dl t * t))) := by
    rw [wordJ_cons, wordJ_cons, wordJ_cons]
    show stepJ mP2 2 t (-1) _ 1 = _
    rw [step2_1 (by decide), e0, e1, p1, m1, r1, r0]
  unfold jonesV
  rw [bracket2, w0, w1, s3, sg, z9]
  have c1 : ((1 : Int) : Rat) = 1 := by simp
  have c0 : ((0 : Int) : Rat) = 0 := by simp
  have cm : ((-1 : Int) : Rat) = -1 := by simp
  simp only [ev, evL, trefP, z4, dl, m2, c1, c0, cm]
  generalize t⁻¹ = v at h0 ⊢
  grind
theorem tref_tr : Trimmed trefP := tr_lit (by decide) (by decide) (by decide)
theorem tref_count : solL (smithL (matI 2 (colF 3 2 ((1 : Int) % ((3 : Nat) : Int)) [1, 1, 1])) 2 2) 3 2 = 9 := by decide +kernel

end Go.Proofs.Ytckopilciekfbaa

namespace Go.Proofs.Ytckopilciekfbaa
open Go.RowKit Go.Sl

theorem torW_succ (k : Nat) : torW (k + 1) = torW k ++ [1] := List.replicate_succ'
theorem tor_run (lab : Nat → Nat) : ∀ k, (lkRun lab 2 (torW k)).2 = (if k % 2 = 0 then [0, 1] else [1, 0]) ∧ (lkRun lab 2 (torW k)).1 (lab 0) (lab 1) = k ∧ (lkRun lab 2 (torW k)).1 (lab 1) (lab 0) = k
  | 0 => ⟨rfl, rfl, rfl⟩
  | k + 1 => by
    obtain ⟨h1, h2, h3⟩ := tor_run lab k
    rw [torW_succ, lkRun_snoc]
    generalize lkRun lab 2 (torW k) = q at h1 h2 h3 ⊢
    obtain ⟨F, S⟩ := q
    simp only at h1 h2 h3
    unfold lkStep
    simp only
    have sg : sgx 1 = 1 := by decide
    rw [sg]
    by_cases hk : k % 2 = 0
    · rw [if_pos hk] at h1
      subst h1
      refine ⟨by rw [if_neg (by omega)]; decide, ?_, ?_⟩
      · show bump F (lab 0) (lab 1) 1 (lab 0) (lab 1) = _
        unfold bump
        rw [h2, if_pos ⟨rfl, rfl⟩]
        by_cases e : lab 0 = lab 1
        · rw [if_neg (fun h => h.1 e)]; omega
        · rw [if_neg (fun h => e h.2.1)]; omega
      · show bump F (lab 0) (lab 1) 1 (lab 1) (lab 0) = _
        unfold bump
        rw [h3]
        by_cases e : lab 0 = lab 1
        · rw [if_pos ⟨e.symm, e⟩, if_neg (fun h => h.1 e)]; omega
        · rw [if_neg (fun h => e h.2), if_pos ⟨e, rfl, rfl⟩]; omega
    · rw [if_neg hk] at h1
      subst h1
      refine ⟨by rw [if_pos (by omega)]; decide, ?_, ?_⟩
      · show bump F (lab 1) (lab 0) 1 (lab 0) (lab 1) = _
        unfold bump
        rw [h2]
        by_cases e : lab 0 = lab 1
        · rw [if_pos ⟨e, e.symm⟩, if_neg (fun h => h.1 e.symm)]; omega
        · rw [if_neg (fun h => e h.1), if_pos ⟨fun h => e h.symm, rfl, rfl⟩]; omega
      · show bump F (lab 1) (lab 0) 1 (lab 1) (lab 0) = _
        unfold bump
        rw [h3, if_pos ⟨rfl, rfl⟩]
        by_cases e : lab 0 = lab 1
        · rw [if_neg (fun h => h.1 e.symm)]; omega
        · rw [if_neg (fun h => e h.2.2)]; omega
theorem tor_strands (k : Nat) : strandsL 2 (torW k) = if k % 2 = 0 then [0, 1] else [1, 0] := by
  rw [← lkRun_strands (fun _ => 0)]; exact (tor_run _ k).1
/-- What LinkingNumbers gives. -/
theorem tor_link {k : Nat} {C : List (List Int)} {lab : Nat → Nat} (hc : CycOK (backL (strandsL 2 (torW k))) (C.map List.length)) (hl : LabOK (backL (strandsL 2 (torW k))) C lab) :
    (k % 2 = 1 → C.length = 1 ∧ lkN (lkRun lab 2 (torW k)).1 0 0 = k) ∧ (k % 2 = 0 → C.length = 2 ∧ lkN (lkRun lab 2 (torW k)).1 0 1 = (k : Int).tdiv 2) := by
  obtain ⟨-, r1, r2⟩ := tor_run lab k
  constructor
  · intro hk
    rw [tor_strands, if_neg (by omega), show backL [1, 0] = [1, 0] by decide] at hc hl
    have hN : C.length = 1 := by
      have h := hc.reps
      rw [List.length_map] at h
      rw [h]
      show cntN (fun j => ∀ (k : Nat), j ≤ itr [1, 0] k j) 2 = 1
      rw [cntN_congr (Q := fun j => j = 0) 2 (fun j hj => ?_)]
      · have := cntN_one (P := fun _ => False) (Q := fun j => j = 0) 2 0 (by decide) (fun h => h) (fun j _ => by simp)
        rw [cntN_none 2 (fun _ _ h => h)] at this
        exact this
      · rcases (show j = 0 ∨ j = 1 by have : j < 2 := hj; omega) with rfl | rfl
        · simp
        · constructor
          · intro h; exact absurd (h 1) (by decide)
          · intro h; cases h
    have l0 := hl.lt 0 (by decide)
    have l1 := hl.lt 1 (by decide)
    rw [hN] at l0 l1
    have e0 : lab 0 = 0 := by omega
    have e1 : lab 1 = 0 := by omega
    rw [e0, e1] at r1
    exact ⟨hN, by unfold lkN; rw [if_pos rfl]; exact r1⟩
  · intro hk
    rw [tor_strands, if_pos hk, show backL [0, 1] = [0, 1] by decide] at hc hl
    have hit : ∀ k j, j < 2 → itr [0, 1] k j = j := fun k => by
      induction k with
      | zero => intro j _; rfl
      | succ k ih =>
        intro j hj
        rw [itr, ih j hj]
        rcases (show j = 0 ∨ j = 1 by omega) with rfl | rfl <;> rfl
    have hN : C.length = 2 := by
      have h := hc.reps
      rw [List.length_map, cntN_all _ fun j hj k => by rw [hit k j hj]; exact Nat.le_refl _] at h
      exact h
    have h0 := hl.lt 0 (by decide)
    have h1 := hl.lt 1 (by decide)
    rw [hN] at h0 h1
    have hne : lab 0 ≠ lab 1 := by
      intro e
      obtain ⟨b, hb, hbn⟩ : ∃ b, b < 2 ∧ b ≠ lab 0 := by
        by_cases h : lab 0 = 0
        · exact ⟨1, by omega, by omega⟩
        · exact ⟨0, by omega, by omega⟩
      have hp := hc.pos _ (List.mem_map.2 ⟨nthr C b, nthr_mem (by omega), rfl⟩)
      obtain ⟨_, a2, a3⟩ := hl.mem b (by omega) _ (nth_mem hp)
      obtain ⟨x, hx⟩ : ∃ x, (nth (nthr C b) 0).toNat = x := ⟨_, rfl⟩
      rw [hx] at a2 a3
      have a2 : x < 2 := a2
      rcases (show x = 0 ∨ x = 1 by omega) with rfl | rfl
      · exact hbn a3.symm
      · exact hbn (by omega)
    refine ⟨hN, ?_⟩
    unfold lkN
    rw [if_neg (by decide)]
    rcases (show lab 0 = 0 ∧ lab 1 = 1 ∨ lab 0 = 1 ∧ lab 1 = 0 by omega) with ⟨e, f⟩ | ⟨e, f⟩
    · rw [e, f] at r1; rw [r1]
    · rw [e, f] at r2; rw [r2]

/-- What alexander's functions give. -/
theorem pok_small {p : LP} (ht : Trimmed p) (h1 : p.c.length ≤ 200) (h2 : -1000 ≤ p.low) (h3 : p.low ≤ 1000) (h4 : n1 p.c ≤ 1000) : POk p :=
  ⟨h1, h2, h3, ht, by omega, fun x hx => by have := n1_mem hx; omega⟩
structure TorOK (k : Nat) : Prop where
  pf : ∀ i j, i < 2 → j < 2 → PFit (nthp (rowM 2 (torW k) i) j) ∧ n1 (nthp (rowM 2 (torW k) i) j).c ≤ 100000000000000
  fit : ExpFit (2 - 1) (alexM 2 (torW k))
  ok : POk (expandL (2 - 1) (alexM 2 (torW k)))
  ok2 : POk (pnorm (expandL (2 - 1) (alexM 2 (torW k))))
  eq : pnorm (expandL (2 - 1) (alexM 2 (torW k))) = ⟨0, altL k⟩
  at2 : (atR (-1) 0 (altL k)).natAbs = k
theorem torOK {k : Nat} (h1 : 1 ≤ k) (h2 : k ≤ 20) : TorOK k := by
  have a := torA_all ⟨k, by omega⟩
  have e := torE_all ⟨k, by omega⟩
  have x := torX_all ⟨k, by omega⟩ h1
  simp only [torE, Bool.and_eq_true, decide_eq_true_eq] at e
  simp only [torX, Bool.and_eq_true, decide_eq_true_eq] at x
  obtain ⟨⟨⟨⟨⟨⟨⟨⟨e1, e2⟩, e3⟩, e4⟩, e5⟩, e6⟩, e7⟩, e8⟩, e9⟩ := e
  obtain ⟨⟨⟨⟨⟨⟨⟨x1, x2⟩, x3⟩, x4⟩, x5⟩, x6⟩, x7⟩, x8⟩ := x
  have eq : pnorm (expandL (2 - 1) (alexM 2 (torW k))) = ⟨0, altL k⟩ := by
    show pnorm (expandL 1 (alexM 2 (torW k))) = _
    generalize pnorm (expandL 1 (alexM 2 (torW k))) = p at x5 x6
    obtain ⟨l, c⟩ := p
    simp only at x5 x6
    rw [x5, x6]
  have tp : Trimmed (pnorm (expandL (2 - 1) (alexM 2 (torW k)))) := pmul_trimmed _ _
  refine ⟨fun i j hi hj => a i hi j hj, ?_, pok_small (expandL_trimmed _ _) x1 x2 x3 x4, ?_, eq, x8⟩
  · intro c hc
    have hc : c < 1 := hc
    obtain rfl : c = 0 := by omega
    exact ⟨⟨e1, e2⟩, ⟨e3, e4⟩, Nat.le_trans (Nat.mul_le_mul e7 e8) (by decide), (show PFit pzero from ⟨by decide, by decide⟩), ⟨e5, e6⟩, Nat.le_trans (Nat.add_le_add (Nat.le_refl (n1 pzero.c)) (Nat.mul_le_mul_left 1000 e9)) (by decide), trivial⟩
  · rw [eq] at tp ⊢
    have hl : (altL k).length = k := by simp [altL]
    exact pok_small tp (by show (altL k).length ≤ 200; omega) (show (-1000 : Int) ≤ 0 by decide) (show (0 : Int) ≤ 1000 by decide) x7

end Go.Proofs.Ytckopilciekfbaa


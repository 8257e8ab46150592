/- The Alexander polynomial at 1, and modulo 2 at -1. Plain algebra. -/
import Derived.Test.YtckopilciekfbaaQAlexSymm0
import Derived.Test.YtckopilciekfbaaQAlexSymm1
import Derived.Test.YtckopilciekfbaaQAlexSymm2
import Derived.Test.YtckopilciekfbaaQAlexSymm3
import Derived.Test.YtckopilciekfbaaQAlexSymm4
import Derived.Test.YtckopilciekfbaaQAlexSymm5
import Derived.Test.YtckopilciekfbaaQAlexSymm6
import Derived.Test.YtckopilciekfbaaQAlexSymm7
import Derived.Test.YtckopilciekfbaaQAlexSymm8
import Derived.Test.YtckopilciekfbaaQAlexSymm10
import Derived.Test.YtckopilciekfbaaQAlexSymm11
import Derived.Test.YtckopilciekfbaaQAlexSymm12
import Derived.Test.YtckopilciekfbaaQAlexSymm13
import Derived.Test.YtckopilciekfbaaQAlexSymm14
import Derived.Test.YtckopilciekfbaaQAlexSymm15
import Derived.Test.YtckopilciekfbaaQAlexSymm16
import Derived.Test.YtckopilciekfbaaQAlexSymm17
import Derived.Test.YtckopilciekfbaaQAlexSymm18
import Derived.Test.YtckopilciekfbaaQAlexSymm19
import Derived.Test.YtckopilciekfbaaQAlexSymm20
import Derived.Test.YtckopilciekfbaaQAlexSymm21
import Derived.Test.YtckopilciekfbaaQAlexSymm22
import Derived.Test.YtckopilciekfbaaQAlexSymm24
import Derived.Test.YtckopilciekfbaaQAlexSymm26
import Derived.Test.YtckopilciekfbaaQAlexSymm27
import Derived.Test.YtckopilciekfbaaQAlexSymm28
import Derived.Test.YtckopilciekfbaaQAlexSymm29
import Derived.Test.YtckopilciekfbaaQAlexSymm30
import Derived.Test.YtckopilciekfbaaQAlexSymm31
import Derived.Test.YtckopilciekfbaaQAlexSymm32
import Derived.Test.YtckopilciekfbaaQAlexSymm33
import Derived.Test.YtckopilciekfbaaQAlexSymm34
import Derived.Test.YtckopilciekfbaaQAlexSymm35
import Derived.Test.YtckopilciekfbaaQAlexSymm36
import Derived.Test.YtckopilciekfbaaQAlexSymm37
import Derived.Test.YtckopilciekfbaaQAlexSymm39
import Derived.Test.YtckopilciekfbaaQAlexSymm42
import Derived.Test.YtckopilciekfbaaQAlexSymm43
import Derived.Test.YtckopilciekfbaaQAlexSymm44
import Derived.Test.YtckopilciekfbaaQAlexSymm45
import Derived.RangeFuncNested
import Derived.RangeFuncBound
import Derived.RangeFuncCalls
import Derived.RangeFuncLeaves
import Derived.RangeFuncBox
import Derived.Shelf.Abstract
import Derived.Shelf.RegionOpen
import Derived.OwnWalkIn
import Derived.TacticsInMore
import Derived.LoopNIn
import Derived.LoopIn
import Derived.Maps.AppendAt
import Derived.OrdersIn
import Derived.OrdersHeld
import Derived.Deep.RegionHeld
namespace Go.Proofs.Ytckopilciekfbaa
open Go.RowKit Go.Sl
open Go.Det (sumN dt mul upd Alt uni)

theorem sumN_cast (f : Nat → Int) (n : Nat) : sumN (fun k => ((f k : Int) : Rat)) n = ((sumN f n : Int) : Rat) := by
  induction n with
  | zero => rfl
  | succ n ih => rw [sumN, sumN, ih, Rat.intCast_add]
theorem sgN_cast (c : Nat) : (Go.Det.sgN c : Rat) = ((Go.Det.sgN c : Int) : Rat) := by unfold Go.Det.sgN; split <;> rfl
theorem dt_cast (n : Nat) : ∀ A : Nat → Nat → Int, dt n (fun i j => ((A i j : Int) : Rat)) = ((dt n A : Int) : Rat) := by
  induction n with
  | zero => intro A; rfl
  | succ n ih =>
    intro A
    rw [dt, dt, ← sumN_cast]
    refine Go.Det.sumN_congr _ fun c _ => ?_
    rw [ih (fun i j => A (i + 1) (Go.Det.skp c j)), Rat.intCast_mul, Rat.intCast_mul, ← sgN_cast]
theorem sumN_ind {R : Type} [Lean.Grind.CommRing R] (m : Nat) (f : Nat → R) (a : Nat) : sumN (fun k => (if a = k then 1 else 0) * f k) m = if a < m then f a else 0 := by
  by_cases h : a < m
  · rw [if_pos h, Go.Det.sumN_one m a h (fun k _ hk => by rw [if_neg (Ne.symm hk)]; grind), if_pos rfl]; grind
  · rw [if_neg h, Go.Det.sumN_zero m (fun k hk => by rw [if_neg (by omega)]; grind)]
/-- One cycle. -/
theorem minor_cycle {m : Nat} (a d : Nat → Nat) (ha : ∀ i, i < m + 1 → a i < m + 1) (hd0 : d m = 0) (hds : ∀ i, i < m → d i = d (a i) + 1) (hinj : ∀ i j, i < m + 1 → j < m + 1 → d i = d j → i = j) :
    dt m (fun i j => (uni i j - if a i = j then 1 else 0 : Int)) = 1 ∨ dt m (fun i j => (uni i j - if a i = j then 1 else 0 : Int)) = -1 := by
  have h := Go.Det.dt_mul m (fun i j => (uni i j - if a i = j then 1 else 0 : Int)) (fun i j => if d j ≤ d i then 1 else 0)
  rw [Go.Det.dt_congr (B := uni) (fun i j hi hj => ?_), Go.Det.dt_uni] at h
  · obtain ⟨x, hx⟩ : ∃ x, dt m (fun i j => (uni i j - if a i = j then 1 else 0 : Int)) = x := ⟨_, rfl⟩
    obtain ⟨y, hy⟩ : ∃ y, dt m (fun i j => (if d j ≤ d i then 1 else 0 : Int)) = y := ⟨_, rfl⟩
    rw [hx, hy] at h
    rw [hx]
    have h2 := congrArg Int.natAbs h
    rw [Int.natAbs_mul] at h2
    have h3 := Nat.eq_one_of_mul_eq_one_right h2.symm
    omega
  · unfold mul
    have e : ∀ k, k < m → (uni i k - if a i = k then 1 else 0 : Int) * (if d j ≤ d k then 1 else 0) = 1 * ((if i = k then 1 else 0) * (if d j ≤ d k then 1 else 0)) + (-1) * ((if a i = k then 1 else 0) * (if d j ≤ d k then 1 else 0)) := fun k _ => by unfold uni; grind
    rw [Go.Det.sumN_congr m e, Go.Det.sumN_lin, sumN_ind m (fun k => if d j ≤ d k then (1 : Int) else 0) i, sumN_ind m (fun k => if d j ≤ d k then (1 : Int) else 0) (a i), if_pos hi]
    have h1 := hds i hi
    have h2 := ha i (by omega)
    have h3 : d i = d j → i = j := hinj i j (by omega) (by omega)
    unfold uni
    by_cases e2 : a i < m
    · rw [if_pos e2]
      by_cases e3 : i = j
      · subst e3; rw [if_pos (Nat.le_refl _), if_neg (by omega), if_pos rfl]; rfl
      · have : d i ≠ d j := fun e => e3 (h3 e)
        rw [if_neg e3]
        by_cases e4 : d j ≤ d i
        · rw [if_pos e4, if_pos (by omega)]; rfl
        · rw [if_neg e4, if_neg (by omega)]; rfl
    · have e5 : a i = m := by omega
      rw [if_neg e2]
      rw [e5, hd0] at h1
      have h4 : d j ≠ 0 := fun e => by have := hinj j m (by omega) (by omega) (by rw [e, hd0]); omega
      by_cases e3 : i = j
      · subst e3; rw [if_pos (Nat.le_refl _), if_pos rfl]; rfl
      · have : d i ≠ d j := fun e => e3 (h3 e)
        rw [if_neg e3, if_neg (by omega)]; rfl
theorem dt_zero_col {m : Nat} (A : Nat → Nat → Rat) {r : Nat} (hr : r < m) (h : ∀ i, i < m → A i r = 0) : dt m A = 0 := by
  have h2 := (Go.Det.alt_turn (R := Rat) m).smul (fun j i => A i j) r 0 (fun i => A i r) hr
  rw [Rat.zero_mul] at h2
  rw [← h2]
  refine Go.Det.dt_congr fun i j hi hj => ?_
  unfold upd
  by_cases e : j = r
  · rw [if_pos e, e, h i hi]; simp
  · rw [if_neg e]
/-- A set of points that is kept, without the last one. -/
theorem minor_kernel {m : Nat} (a : Nat → Nat) (f : Nat → Rat) (ha : ∀ i, i < m + 1 → a i < m + 1) (hm : f m = 0) (hf : ∀ i, i < m → f (a i) = f i) {i0 : Nat} (h0 : i0 < m) (h1 : f i0 = 1) :
    dt m (fun i j => (uni i j - if a i = j then 1 else 0 : Rat)) = 0 := by
  have h := comb (Go.Det.alt_turn m) (fun j i => (uni i j - if a i = j then 1 else 0 : Rat)) f h0
  rw [h1, Rat.one_mul] at h
  rw [← h]
  refine dt_zero_col _ h0 fun i hi => ?_
  simp only [upd, if_true]
  have e : ∀ k, k < m → f k * (uni i k - if a i = k then 1 else 0 : Rat) = 1 * ((if i = k then 1 else 0) * f k) + (-1) * ((if a i = k then 1 else 0) * f k) := fun k _ => by unfold uni; grind
  rw [Go.Det.sumN_congr m e, Go.Det.sumN_lin, sumN_ind m f i, sumN_ind m f (a i), if_pos hi]
  have h2 := hf i hi
  by_cases e2 : a i < m
  · rw [if_pos e2, h2]; grind
  · have : a i = m := by have := ha i (by omega); omega
    rw [if_neg e2, ← h2, this, hm]; grind

theorem least {P : Nat → Prop} {k : Nat} (h : P k) : ∃ k, P k ∧ ∀ j, j < k → ¬ P j := by
  induction k using Nat.strongRecOn with
  | _ k ih =>
    by_cases hj : ∃ j, j < k ∧ P j
    · obtain ⟨j, h1, h2⟩ := hj
      exact ih j h1 h2
    · exact ⟨k, h, fun j h1 h2 => hj ⟨j, h1, h2⟩⟩
theorem indic (P : Nat → Prop) : ∃ f : Nat → Rat, (∀ i, P i → f i = 1) ∧ ∀ i, ¬ P i → f i = 0 := by
  have dec : ∀ p : Prop, Decidable p := fun p => Classical.propDecidable p
  refine ⟨fun i => @ite _ (P i) (dec _) 1 0, fun i h => ?_, fun i h => ?_⟩
  · show @ite _ (P i) (dec _) (1 : Rat) 0 = 1
    rw [if_pos h]
  · show @ite _ (P i) (dec _) (1 : Rat) 0 = 0
    rw [if_neg h]
theorem pickF {n : Nat} {Q : Nat → Nat → Prop} (h : ∀ j, j < n → ∃ k, Q j k) : ∃ d : Nat → Nat, ∀ j, j < n → Q j (d j) := by
  refine ⟨fun j => if hj : j < n then Classical.choose (h j hj) else 0, fun j hj => ?_⟩
  show Q j (if hj : j < n then Classical.choose (h j hj) else 0)
  rw [dif_pos hj]; exact Classical.choose_spec (h j hj)
theorem cntN_pos {P : Nat → Prop} (h : P 0) : ∀ n, 1 ≤ cntN P (n + 1) := by
  intro n
  induction n with
  | zero => rw [cntN, if_pos h]; omega
  | succ n ih => rw [cntN]; omega
theorem cntN_only {P : Nat → Prop} (h : P 0) : ∀ n, cntN P (n + 1) = 1 → ∀ j, j < n + 1 → P j → j = 0 := by
  intro n
  induction n with
  | zero => intro _ j hj _; omega
  | succ n ih =>
    intro hc j hj hp
    rw [cntN] at hc
    have h1 := cntN_pos h n
    by_cases e : j = n + 1
    · subst e; rw [if_pos hp] at hc; omega
    · exact ih (by omega) j (by omega) hp
theorem cntN_more {P : Nat → Prop} (h : P 0) : ∀ n, cntN P (n + 1) ≠ 1 → ∃ j, j < n + 1 ∧ P j ∧ j ≠ 0 := by
  intro n
  induction n with
  | zero => intro hc; rw [cntN, if_pos h] at hc; exact absurd rfl hc
  | succ n ih =>
    intro hc
    rw [cntN] at hc
    by_cases e : P (n + 1)
    · exact ⟨n + 1, by omega, e, by omega⟩
    · rw [if_neg e] at hc
      obtain ⟨j, h1, h2, h3⟩ := ih hc
      exact ⟨j, by omega, h2, h3⟩

section
variable {a : List Int} {L : List Nat} {m : Nat}
/-- Some number of applications is the identity. -/
theorem CycOK.full (h : CycOK a L) : ∃ N, 0 < N ∧ ∀ i, i < a.length → itr a N i = i :=
  ⟨lcmL L, (lcmL_bound L h.pos).1, (h.iff _).1 ((lcmL_dvd L _).1 (Nat.dvd_refl _))⟩
theorem itr_mul {N : Nat} (hN : ∀ i, i < a.length → itr a N i = i) {i : Nat} (hi : i < a.length) (q : Nat) : itr a (N * q) i = i := by
  induction q with
  | zero => rfl
  | succ q ih => rw [Nat.mul_succ, itr_add, hN i hi, ih]
theorem itr_back (ha : IsPerm a) (h : CycOK a L) {i j k : Nat} (hi : i < a.length) (hk : itr a k i = j) : ∃ k', itr a k' j = i := by
  obtain ⟨N, hN0, hN⟩ := h.full
  refine ⟨N * k - k, ?_⟩
  have h1 : k ≤ N * k := Nat.le_mul_of_pos_left k hN0
  rw [← hk, ← itr_add, Nat.sub_add_cancel h1]
  exact itr_mul hN hi k
theorem one_cycle (ha : IsPerm a) (hl : a.length = m + 1) (h : CycOK a L) (h1 : L.length = 1) : ∃ d : Nat → Nat, d m = 0 ∧ (∀ i, i < m → d i = d (nth a i).toNat + 1) ∧ ∀ i j, i < m + 1 → j < m + 1 → d i = d j → i = j := by
  have hr := h.reps
  rw [h1, hl] at hr
  have hmin := cntN_only (P := fun j => ∀ k, j ≤ itr a k j) (fun k => Nat.zero_le _) m hr.symm
  have to0 : ∀ j, j < m + 1 → ∃ k, itr a k j = 0 := by
    intro j
    induction j using Nat.strongRecOn with
    | _ j ih =>
      intro hj
      by_cases e : j = 0
      · exact ⟨0, e⟩
      · have : ∃ k, itr a k j < j := Classical.byContradiction fun hn => e (hmin j hj fun k => by
          rcases Nat.lt_or_ge (itr a k j) j with h | h
          · exact absurd ⟨k, h⟩ hn
          · exact h)
        obtain ⟨k, hk⟩ := this
        obtain ⟨k', hk'⟩ := ih _ hk (by omega)
        exact ⟨k' + k, by rw [itr_add, hk']⟩
  obtain ⟨k1, hk1⟩ := to0 m (by omega)
  obtain ⟨k2, hk2⟩ := itr_back ha h (by omega) hk1
  have tom : ∀ j, j < m + 1 → ∃ k, itr a k j = m ∧ ∀ l, l < k → itr a l j ≠ m := fun j hj => by
    obtain ⟨k, hk⟩ := to0 j hj
    exact least (P := fun k => itr a k j = m) (k := k2 + k) (by show itr a (k2 + k) j = m; rw [itr_add, hk, hk2])
  obtain ⟨d, hd⟩ := pickF tom
  refine ⟨d, ?_, fun i hi => ?_, fun i j hi hj e => ?_⟩
  · rcases Nat.eq_zero_or_pos (d m) with h | h
    · exact h
    · exact absurd rfl ((hd m (by omega)).2 0 h)
  · have hai : (nth a i).toNat < m + 1 := by rw [← hl]; exact step_lt ha (by omega)
    obtain ⟨h2, h3⟩ := hd i (by omega)
    obtain ⟨h4, h5⟩ := hd _ hai
    have e1 : ∀ k, itr a (k + 1) i = itr a k (nth a i).toNat := fun k => by rw [itr_add]; rfl
    rcases Nat.lt_trichotomy (d i) (d (nth a i).toNat + 1) with h6 | h6 | h6
    · exfalso
      rcases Nat.eq_zero_or_pos (d i) with h7 | h7
      · rw [h7] at h2
        have : i = m := h2
        omega
      · refine h5 (d i - 1) (by omega) ?_
        rw [← e1, Nat.sub_add_cancel h7, h2]
    · exact h6
    · exact absurd (by rw [e1, h4]) (h3 _ h6)
  · have h2 := (hd i hi).1
    have h3 := (hd j hj).1
    rw [e] at h2
    exact itr_inj ha _ (by omega) (by omega) (h2.trans h3.symm)
theorem more_cycles (ha : IsPerm a) (hl : a.length = m + 1) (h : CycOK a L) (h1 : L.length ≠ 1) : ∃ (f : Nat → Rat) (i0 : Nat), f m = 0 ∧ (∀ i, i < m → f (nth a i).toNat = f i) ∧ i0 < m ∧ f i0 = 1 := by
  have hr := h.reps
  rw [hl] at hr
  obtain ⟨j0, hj0, hmin, hne⟩ := cntN_more (P := fun j => ∀ k, j ≤ itr a k j) (fun k => Nat.zero_le _) m (by rw [← hr]; exact h1)
  have hS : ∀ i, i < m + 1 → ((∃ k, itr a k j0 = (nth a i).toNat) ↔ ∃ k, itr a k j0 = i) := by
    intro i hi
    constructor
    · rintro ⟨k, hk⟩
      obtain ⟨k', hk'⟩ := itr_back ha h (i := i) (j := (nth a i).toNat) (k := 1) (by omega) rfl
      exact ⟨k' + k, by rw [itr_add, hk, hk']⟩
    · rintro ⟨k, hk⟩
      exact ⟨k + 1, by rw [itr, hk]⟩
  have h00 : ¬ ∃ k, itr a k j0 = 0 := fun ⟨k, hk⟩ => by have := hmin k; omega
  by_cases hm : ∃ k, itr a k j0 = m
  · obtain ⟨f, f1, f0⟩ := indic fun i => ¬ ∃ k, itr a k j0 = i
    refine ⟨f, 0, f0 m (fun h => h hm), fun i hi => ?_, ?_, f1 0 h00⟩
    · by_cases e : ∃ k, itr a k j0 = i
      · rw [f0 i (fun h => h e), f0 _ (fun h => h ((hS i (by omega)).2 e))]
      · rw [f1 i e, f1 _ (fun h => e ((hS i (by omega)).1 h))]
    · rcases Nat.eq_zero_or_pos m with h | h
      · exact absurd (h ▸ hm) h00
      · exact h
  · obtain ⟨f, f1, f0⟩ := indic fun i => ∃ k, itr a k j0 = i
    refine ⟨f, j0, f0 m hm, fun i hi => ?_, ?_, f1 j0 ⟨0, rfl⟩⟩
    · by_cases e : ∃ k, itr a k j0 = i
      · rw [f1 i e, f1 _ ((hS i (by omega)).2 e)]
      · rw [f0 i e, f0 _ (fun h => e ((hS i (by omega)).1 h))]
    · rcases Nat.lt_or_ge j0 m with h | h
      · exact h
      · exact absurd ⟨0, show j0 = m by omega⟩ hm
end

/-- At 1 a letter exchanges two entries. -/
theorem bact_one {x : Int} (h0 : x ≠ 0) (f : Nat → Rat) (j : Nat) : bact 1 x f (swp x j) = f j := by
  have hi : (1 : Rat)⁻¹ = 1 := by decide +kernel
  obtain ⟨p, hp⟩ : ∃ p, x.natAbs = p + 1 := ⟨x.natAbs - 1, by omega⟩
  unfold bact bactP bactN swp
  rw [hp, Nat.add_sub_cancel, hi]
  by_cases e1 : j = p
  · subst e1
    rw [if_pos rfl]
    split <;> simp <;> grind
  · rw [if_neg (show ¬ j + 1 = p + 1 by omega)]
    by_cases e2 : j = p + 1
    · subst e2
      rw [if_pos rfl, Nat.add_sub_cancel]
      split <;> simp <;> grind
    · rw [if_neg e2]
      split <;> simp only [if_neg e1, if_neg e2]
theorem bacts_one : ∀ (w : List Int), (∀ x ∈ w, x ≠ 0) → ∀ (f : Nat → Rat) (j : Nat), bacts 1 w f (permB w j) = f j := by
  intro w
  induction w with
  | nil => intro _ f j; rfl
  | cons x w ih =>
    intro h f j
    show bacts 1 w (bact 1 x f) (permB w (swp x j)) = f j
    rw [ih (fun y hy => h y (by simp [hy])), bact_one (h x (by simp))]
theorem BW_one {n : Nat} (hn : n ≤ 1000) {w : List Int} (hw : NWord n w) {i j : Nat} (hi : i < n) (hj : j < n) : BW 1 w i j = if (nth (backL (strandsL n w)) i).toNat = j then 1 else 0 := by
  rw [back_strands hn hw hi]
  simp only [Int.toNat_natCast]
  have hp := (strands_perm hn w hw).back
  have hl : (backL (strandsL n w)).length = n := by rw [backL_length, strandsL_length]
  -- every j is the image of one k
  obtain ⟨k, hk, hkj⟩ : ∃ k, k < n ∧ permB w k = j := by
    have hm : (j : Int) ∈ backL (strandsL n w) := hp.perm.mem_iff.2 (mem_iota.2 ⟨by omega, by rw [hl]; omega⟩)
    obtain ⟨k, hk, e⟩ := List.getElem_of_mem hm
    refine ⟨k, by omega, ?_⟩
    have := back_strands hn hw (j := k) (by omega)
    rw [nth_lt hk, e] at this
    omega
  rw [← hkj]
  unfold BW
  rw [bacts_one w (fun x hx => (hw x hx).1)]
  unfold unitV
  by_cases e : k = i
  · rw [if_pos e, e, if_pos rfl]
  · rw [if_neg e, if_neg]
    intro h
    have h1 := back_strands hn hw hi
    have h2 := back_strands hn hw hk
    exact e (hp.inj (by omega) (by omega) (by rw [h1, h2, h]))
/-- The value at 1: 1 or -1 for a knot, else 0. -/
theorem cW_one {m : Nat} (hm : m ≤ 900) {w : List Int} (hw : NWord (m + 1) w) {L : List Nat} (hL : CycOK (backL (strandsL (m + 1) w)) L) :
    (L.length = 1 → cW 1 m w = 1 ∨ cW 1 m w = -1) ∧ (L.length ≠ 1 → cW 1 m w = 0) := by
  have hp := (strands_perm (n := m + 1) (by omega) w hw).back
  have hl : (backL (strandsL (m + 1) w)).length = m + 1 := by rw [backL_length, strandsL_length]
  have ha : ∀ i, i < m + 1 → (nth (backL (strandsL (m + 1) w)) i).toNat < m + 1 := fun i hi => by
    have := step_lt hp (i := i) (by omega)
    omega
  have e1 : cW 1 m w = dt m (fun i j => (uni i j - if (nth (backL (strandsL (m + 1) w)) i).toNat = j then 1 else 0 : Rat)) := by
    unfold cW
    exact Go.Det.dt_congr fun i j hi hj => by rw [BW_one (by omega) hw (by omega) (by omega)]
  have e2 : dt m (fun i j => (uni i j - if (nth (backL (strandsL (m + 1) w)) i).toNat = j then 1 else 0 : Rat)) = ((dt m (fun i j => (uni i j - if (nth (backL (strandsL (m + 1) w)) i).toNat = j then 1 else 0 : Int)) : Int) : Rat) := by
    rw [← dt_cast]
    refine Go.Det.dt_congr fun i j _ _ => ?_
    unfold uni
    split <;> split <;> decide +kernel
  constructor
  · intro h1
    obtain ⟨d, d1, d2, d3⟩ := one_cycle hp hl hL h1
    rw [e1, e2]
    rcases minor_cycle (fun i => (nth (backL (strandsL (m + 1) w)) i).toNat) d ha d1 d2 d3 with h | h
    · rw [h]; exact .inl rfl
    · rw [h]; exact .inr rfl
  · intro h1
    obtain ⟨f, i0, f1, f2, f3, f4⟩ := more_cycles hp hl hL h1
    rw [e1]
    exact minor_kernel _ f ha f1 f2 f3 f4
/-- The normalized polynomial at 1. -/
theorem at_one {p : LP} : ((atR 1 p.low p.c : Int) : Rat) = ev p 1 := by rw [atR_pos]; rfl
theorem unit_at {p q : LP} (h : UnitEq p q) {a : Int} (ha : a = 1 ∨ a = -1) : atR a p.low p.c = atR a q.low q.c ∨ atR a p.low p.c = -atR a q.low q.c := by
  obtain ⟨s, e, hs, rfl⟩ := h
  rw [atR_pmul _ _ ha]
  have : atR a e [s] = 1 ∨ atR a e [s] = -1 := by
    simp only [atR]
    rcases hs with rfl | rfl <;> split <;> simp
  rcases this with h | h <;> simp only [h] <;> omega
theorem alex_one {m : Nat} (hm : m ≤ 900) {w : List Int} (hw : NWord (m + 1) w) {L : List Nat} (hL : CycOK (backL (strandsL (m + 1) w)) L) {P : LP} (hP : P = pnorm (expandL m (alexM (m + 1) w))) :
    (L.length = 1 → atR 1 P.low P.c = 1 ∨ atR 1 P.low P.c = -1) ∧ (L.length ≠ 1 → atR 1 P.low P.c = 0) := by
  have h1 := unit_at (pnorm_is (expandL_trimmed m (alexM (m + 1) w))) (a := 1) (.inl rfl)
  rw [← hP] at h1
  have h2 := at_one (p := expandL m (alexM (m + 1) w))
  rw [ev_alex (by decide) hw] at h2
  obtain ⟨h3, h4⟩ := cW_one hm hw hL
  obtain ⟨z, hz⟩ : ∃ z, atR 1 (expandL m (alexM (m + 1) w)).low (expandL m (alexM (m + 1) w)).c = z := ⟨_, rfl⟩
  rw [hz] at h1 h2
  constructor
  · intro h
    have : z = 1 ∨ z = -1 := by
      rcases h3 h with h | h
      · left; rw [h] at h2; exact Rat.intCast_inj.1 h2
      · right; rw [h] at h2; exact Rat.intCast_inj.1 h2
    omega
  · intro h
    have : z = 0 := by rw [h4 h] at h2; exact Rat.intCast_inj.1 h2
    omega

end Go.Proofs.Ytckopilciekfbaa


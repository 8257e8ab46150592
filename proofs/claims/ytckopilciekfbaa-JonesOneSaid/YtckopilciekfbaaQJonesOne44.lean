/- Linking numbers: plain law. -/
import Derived.Test.YtckopilciekfbaaQJonesOne0
import Derived.Test.YtckopilciekfbaaQJonesOne1
import Derived.Test.YtckopilciekfbaaQJonesOne2
import Derived.Test.YtckopilciekfbaaQJonesOne3
import Derived.Test.YtckopilciekfbaaQJonesOne4
import Derived.Test.YtckopilciekfbaaQJonesOne5
import Derived.Test.YtckopilciekfbaaQJonesOne6
import Derived.Test.YtckopilciekfbaaQJonesOne7
import Derived.Test.YtckopilciekfbaaQJonesOne8
import Derived.Test.YtckopilciekfbaaQJonesOne9
import Derived.Test.YtckopilciekfbaaQJonesOne10
import Derived.Test.YtckopilciekfbaaQJonesOne11
import Derived.Test.YtckopilciekfbaaQJonesOne13
import Derived.Test.YtckopilciekfbaaQJonesOne14
import Derived.Test.YtckopilciekfbaaQJonesOne15
import Derived.Test.YtckopilciekfbaaQJonesOne16
import Derived.Test.YtckopilciekfbaaQJonesOne17
import Derived.Test.YtckopilciekfbaaQJonesOne18
import Derived.Test.YtckopilciekfbaaQJonesOne19
import Derived.Test.YtckopilciekfbaaQJonesOne20
import Derived.Test.YtckopilciekfbaaQJonesOne21
import Derived.Test.YtckopilciekfbaaQJonesOne22
import Derived.Test.YtckopilciekfbaaQJonesOne23
import Derived.Test.YtckopilciekfbaaQJonesOne24
import Derived.Test.YtckopilciekfbaaQJonesOne25
import Derived.Test.YtckopilciekfbaaQJonesOne26
import Derived.Test.YtckopilciekfbaaQJonesOne27
import Derived.Test.YtckopilciekfbaaQJonesOne28
import Derived.Test.YtckopilciekfbaaQJonesOne29
import Derived.Test.YtckopilciekfbaaQJonesOne30
import Derived.Test.YtckopilciekfbaaQJonesOne31
import Derived.Test.YtckopilciekfbaaQJonesOne32
import Derived.Test.YtckopilciekfbaaQJonesOne34
import Derived.Test.YtckopilciekfbaaQJonesOne35
import Derived.Test.YtckopilciekfbaaQJonesOne36
import Derived.Test.YtckopilciekfbaaQJonesOne37
import Derived.Test.YtckopilciekfbaaQJonesOne38
import Derived.Test.YtckopilciekfbaaQJonesOne39
import Derived.Test.YtckopilciekfbaaQJonesOne40
import Derived.Test.YtckopilciekfbaaQJonesOne41
import Derived.Test.YtckopilciekfbaaQJonesOne42
import Derived.Test.YtckopilciekfbaaQJonesOne43
import Derived.RangeFuncNested
import Derived.RangeFuncBound
import Derived.RangeFuncCalls
import Derived.RangeFuncLeaves
import Derived.RangeFuncBox
import Derived.Shelf.Abstract
import Derived.Shelf.RegionOpen
import Derived.OwnWalkIn
import Derived.TacticsInMore
import Derived.LoopNIn
import Derived.LoopIn
import Derived.Maps.AppendAt
import Derived.OrdersIn
import Derived.OrdersHeld
import Derived.Deep.RegionHeld
import Derived.Deep.CutRange
import Derived.Deep.RegionLaw
namespace Go.Proofs.Ytckopilciekfbaa
open Go.RowKit Go.Sl Go.TL

/-! ### Sums over lists -/
def lsum (f : Nat → Rat) : List Nat → Rat
  | [] => 0
  | i :: l => f i + lsum f l
theorem lsum_sumQ {N : Nat} (f : Nat → Rat) : ∀ (l : List Nat), l.Pairwise (· < ·) → (∀ i ∈ l, i < N) → lsum f l = sumQ N fun i => if i ∈ l then f i else 0
  | [], _, _ => by simp [lsum, sumQ_zero]
  | a :: l, hp, hl => by
    have hp2 := List.pairwise_cons.1 hp
    have ha : a ∉ l := fun h => Nat.lt_irrefl _ (hp2.1 a h)
    have haN := hl a (by simp)
    rw [lsum, lsum_sumQ f l hp2.2 (fun i hi => hl i (by simp [hi]))]
    have e : f a = sumQ N fun i => if i = a then f i else 0 := by rw [sumQ_one haN (fun i _ hi => if_neg hi), if_pos rfl]
    rw [e, ← sumQ_add]
    refine sumQ_congr fun i _ => ?_
    by_cases h1 : i = a
    · subst h1
      rw [if_pos rfl, if_neg ha, if_pos (by simp)]; grind
    · by_cases h2 : i ∈ l
      · rw [if_neg h1, if_pos h2, if_pos (by simp [h2])]; grind
      · rw [if_neg h1, if_neg h2, if_neg (by simp [h1, h2])]; grind
theorem sumD_lsum (R : Nat) : ∀ l : List Nat, ((sumD R l : Nat) : Rat) = lsum (fun i => (d4 R i : Rat)) l
  | [] => rfl
  | i :: l => by
    rw [lsum, ← sumD_lsum R l, sumD]
    exact Rat.natCast_add _ _

/-! ### One generator at t = 1 -/
def asc : List Nat → Bool
  | [] => true
  | [_] => true
  | a :: b :: l => Nat.blt a b && asc (b :: l)
theorem asc_of : ∀ {l : List Nat}, asc l = true → l.Pairwise (· < ·)
  | [], _ => .nil
  | [_], _ => by simp
  | a :: b :: l, h => by
    unfold asc at h
    rw [Bool.and_eq_true] at h
    have h1 : a < b := Nat.blt_eq.mp h.1
    have h2 := asc_of h.2
    refine List.pairwise_cons.2 ⟨fun x hx => ?_, h2⟩
    rcases List.mem_cons.1 hx with rfl | hx
    · exact h1
    · exact Nat.lt_trans h1 ((List.pairwise_cons.1 h2).1 x hx)
def preB (P : List Nat) (N h : Nat) (pre : List (List Nat × List Nat)) : Bool :=
  (pre.length == N) && allB (fun j => let q := pre.getD j ([], []); asc q.1 && asc q.2 && q.1.all (fun i => Nat.blt i N && Nat.beq (pv P i h) (4 * j)) && q.2.all (fun i => Nat.blt i N && Nat.beq (pv P i h) (4 * j + 1))) N &&
    allB (fun i => let q := pre.getD (pv P i h / 4) ([], []); q.1.contains i || q.2.contains i) N
structure PreOK (P : List Nat) (N h : Nat) (pre : List (List Nat × List Nat)) : Prop where
  len : pre.length = N
  a : ∀ j, j < N → (pre.getD j ([], [])).1.Pairwise (· < ·) ∧ ∀ i ∈ (pre.getD j ([], [])).1, i < N ∧ PT P i h = (j, 0)
  b : ∀ j, j < N → (pre.getD j ([], [])).2.Pairwise (· < ·) ∧ ∀ i ∈ (pre.getD j ([], [])).2, i < N ∧ PT P i h = (j, 1)
  all : ∀ i, i < N → i ∈ (pre.getD (PT P i h).1 ([], [])).1 ∨ i ∈ (pre.getD (PT P i h).1 ([], [])).2
theorem preOK_of {P : List Nat} {N h : Nat} {pre : List (List Nat × List Nat)} (hb : preB P N h pre = true) : PreOK P N h pre := by
  unfold preB at hb
  simp only [Bool.and_eq_true] at hb
  obtain ⟨⟨h1, h2⟩, h3⟩ := hb
  have A := fun j (hj : j < N) => by
    have := allB_of h2 j hj
    simp only [Bool.and_eq_true, List.all_eq_true] at this
    exact this
  refine ⟨by simpa using h1, fun j hj => ⟨asc_of (A j hj).1.1.1, fun i hi => ?_⟩, fun j hj => ⟨asc_of (A j hj).1.1.2, fun i hi => ?_⟩, fun i hi => ?_⟩
  · obtain ⟨q1, q2⟩ := (A j hj).1.2 i hi
    have q2 : pv P i h = 4 * j := Nat.eq_of_beq_eq_true q2
    refine ⟨Nat.blt_eq.mp q1, ?_⟩
    unfold PT; rw [q2]; exact Prod.ext (by simp only; omega) (by simp only; omega)
  · obtain ⟨q1, q2⟩ := (A j hj).2 i hi
    have q2 : pv P i h = 4 * j + 1 := Nat.eq_of_beq_eq_true q2
    refine ⟨Nat.blt_eq.mp q1, ?_⟩
    unfold PT; rw [q2]; exact Prod.ext (by simp only; omega) (by simp only; omega)
  · have := allB_of h3 i hi
    simp only [Bool.or_eq_true, List.contains_iff_mem] at this
    exact this
theorem one_pw (n : Nat) : (1 : Rat) ^ n = 1 := by
  induction n with
  | zero => rfl
  | succ n ih => rw [Rat.pow_succ, ih, Rat.mul_one]
theorem one_zp (e : Int) : (1 : Rat) ^ e = 1 := by
  rcases Int.le_total 0 e with h | h
  · obtain ⟨k, rfl⟩ := Int.eq_ofNat_of_zero_le h
    rw [Rat.zpow_natCast, one_pw]
  · obtain ⟨k, hk⟩ := Int.eq_ofNat_of_zero_le (show 0 ≤ -e by omega)
    rw [show e = -(k : Int) by omega, Rat.zpow_neg, Rat.zpow_natCast, one_pw]
    have := Rat.mul_inv_cancel (1 : Rat) (by decide)
    rwa [Rat.one_mul] at this
theorem dl_one : dl 1 = -2 := by unfold dl; rw [one_zp, one_pw]; grind
theorem gen_pre {P : List Nat} {N h : Nat} {pre : List (List Nat × List Nat)} (H : PreOK P N h pre) (f : Nat → Rat) (j : Nat) (hj : j < N) : genJ P N h 1 f j = lsum f (pre.getD j ([], [])).1 + -2 * lsum f (pre.getD j ([], [])).2 := by
  obtain ⟨a1, a2⟩ := H.a j hj
  obtain ⟨b1, b2⟩ := H.b j hj
  rw [lsum_sumQ (N := N) f _ a1 (fun i hi => (a2 i hi).1), lsum_sumQ (N := N) f _ b1 (fun i hi => (b2 i hi).1), ← sumQ_mul, ← sumQ_add]
  unfold genJ
  refine sumQ_congr fun i hi => ?_
  rw [dl_one]
  by_cases ha : i ∈ (pre.getD j ([], [])).1
  · have e := (a2 i ha).2
    have hb : i ∉ (pre.getD j ([], [])).2 := fun h => by have := (b2 i h).2; rw [e] at this; cases this
    rw [if_pos ha, if_neg hb, e, if_pos rfl]; grind
  · by_cases hb : i ∈ (pre.getD j ([], [])).2
    · have e := (b2 i hb).2
      rw [if_neg ha, if_pos hb, e, if_pos rfl]; grind
    · rw [if_neg ha, if_neg hb, if_neg (fun h => by
        have := H.all i hi
        rw [← h] at this
        rcases this with h | h
        · exact ha h
        · exact hb h)]; grind
theorem rowB_of {R R2 : Nat} : ∀ (pre : List (List Nat × List Nat)) (j : Nat), rowB R R2 pre j = true → ∀ k, k < pre.length → d4 R2 (j + k) + 2 * sumD R (pre.getD k ([], [])).2 = d4 R (j + k) + sumD R (pre.getD k ([], [])).1
  | [], _, _, k, hk => by cases hk
  | (a, b) :: ps, j, h, k, hk => by
    unfold rowB at h
    cases hf : Nat.beq (Nat.add (d4 R2 j) (Nat.mul 2 (sumD R b))) (Nat.add (d4 R j) (sumD R a)) with
    | false => rw [hf] at h; cases h
    | true =>
      rw [hf, cond_true] at h
      cases k with
      | zero => exact Nat.eq_of_beq_eq_true hf
      | succ k =>
        have := rowB_of ps (j + 1) h k (by simpa using hk)
        rw [show j + (k + 1) = j + 1 + k by omega]; exact this
theorem step_row {n N Tr : Nat} {S : List (List Nat)} {P : List Nat} (H : MJ n N S P Tr) {x : Int} {pre : List (List Nat × List Nat)} (hp : PreOK P N x.natAbs pre) {R R2 : Nat} (hr : rowB R R2 pre 0 = true) {f : Nat → Rat} (hf : ∀ j, j < N → f j = (d4 R j : Rat)) (j : Nat) (hj : j < N) : stepJ P N 1 x f j = (d4 R2 j : Rat) := by
  rw [stepJ_two H x f j hj, one_zp, one_zp, Rat.one_mul, Rat.one_mul, hf j hj]
  have e : genJ P N x.natAbs 1 f j = genJ P N x.natAbs 1 (fun i => (d4 R i : Rat)) j := by
    unfold genJ; exact sumQ_congr fun i hi => by rw [hf i hi]
  rw [e, gen_pre hp _ j hj, ← sumD_lsum, ← sumD_lsum]
  have h := rowB_of pre 0 hr j (by rw [hp.len]; exact hj)
  rw [Nat.zero_add] at h
  have h2 : ((d4 R2 j : Nat) : Rat) + 2 * ((sumD R (pre.getD j ([], [])).2 : Nat) : Rat) = (d4 R j : Rat) + ((sumD R (pre.getD j ([], [])).1 : Nat) : Rat) := by
    have := congrArg (fun k : Nat => (k : Rat)) h
    simpa [Rat.natCast_add, Rat.natCast_mul] using this
  grind

/-! ### States -/
theorem eqL_of : ∀ {a b : List Nat}, eqL a b = true → a = b
  | [], [], _ => rfl
  | [], _ :: _, h => by cases h
  | _ :: _, [], h => by cases h
  | a :: l, b :: k, h => by
    unfold eqL at h
    cases hf : Nat.beq a b with
    | false => rw [hf] at h; cases h
    | true => rw [hf, cond_true] at h; rw [Nat.eq_of_beq_eq_true hf, eqL_of h]
theorem stAt_mem (T : List (List JSt)) (k : Nat) : stAt T k ∈ T.flatten ∨ (stAt T k).p = [] := by
  unfold stAt
  by_cases h1 : k / 27 < T.length
  · rw [List.getD_eq_getElem?_getD (l := T), List.getElem?_eq_getElem h1]
    show ((T[k / 27]).getD (k % 27) _) ∈ T.flatten ∨ _
    by_cases h2 : k % 27 < (T[k / 27]).length
    · left
      rw [List.getD_eq_getElem?_getD, List.getElem?_eq_getElem h2]
      exact List.mem_flatten.2 ⟨_, List.getElem_mem h1, List.getElem_mem h2⟩
    · right
      show ((T[k / 27]).getD (k % 27) _).p = []
      rw [List.getD_eq_getElem?_getD, List.getElem?_eq_none (Nat.le_of_not_lt h2)]; rfl
  · right
    rw [List.getD_eq_getElem?_getD (l := T), List.getElem?_eq_none (Nat.le_of_not_lt h1)]
    rfl
theorem nextB_of {T : List (List JSt)} {st : JSt} : ∀ (pres : List (List (List Nat × List Nat))) (ks : List Nat) (h : Nat), nextB T st pres ks h = true → ∀ i, i < pres.length → ∃ st2, st2 = stAt T (ks.getD i 0) ∧ swN st.p (h + i) = st2.p ∧ rowB st.r st2.r (pres.getD i []) 0 = true ∧ (xor st.s st2.s) = true
  | [], _, _, _, i, hi => by cases hi
  | pre :: pres, [], h, hn, i, hi => by unfold nextB at hn; cases hn
  | pre :: pres, k :: ks, h, hn, i, hi => by
    unfold nextB at hn
    cases h1 : eqL (swN st.p h) (stAt T k).p with
    | false => rw [h1] at hn; cases hn
    | true =>
      cases h2 : rowB st.r (stAt T k).r pre 0 with
      | false => rw [h1, h2] at hn; cases hn
      | true =>
        cases h3 : xor st.s (stAt T k).s with
        | false => rw [h1, h2, h3] at hn; cases hn
        | true =>
          rw [h1, h2, h3] at hn
          cases i with
          | zero => exact ⟨_, rfl, eqL_of h1, h2, h3⟩
          | succ i =>
            have := nextB_of pres ks (h + 1) hn i (by simpa using hi)
            rw [show h + (i + 1) = h + 1 + i by omega]; exact this
theorem allSt_of {T : List (List JSt)} {f : JSt → Bool} (h : allSt T f = true) {st : JSt} (hm : st ∈ T.flatten) : f st = true := by
  obtain ⟨l, hl, hs⟩ := List.mem_flatten.1 hm
  unfold allSt at h
  exact List.all_eq_true.1 (List.all_eq_true.1 h l hl) st hs
theorem swS_nat (p : List Nat) (x : Int) : swS (p.map Int.ofNat) x = (swN p x.natAbs).map Int.ofNat := by
  unfold swS swN
  have e : ∀ k, nth (p.map Int.ofNat) k = Int.ofNat (p.getD k 0) := fun k => by
    unfold nth
    rw [List.getD_eq_getElem?_getD, List.getD_eq_getElem?_getD, List.getElem?_map]
    cases p[k]? <;> rfl
  rw [e, e, List.map_set, List.map_set]
theorem swN_ne {p : List Nat} (h : p ≠ []) (k : Nat) : swN p k ≠ [] := by
  unfold swN
  intro e
  have := congrArg List.length e
  simp at this
  exact h this
/-- What is known of a table. -/
structure OneOK (n N : Nat) (P : List Nat) (Tr : Nat) (T : List (List JSt)) (pres : List (List (List Nat × List Nat))) : Prop where
  pre : ∀ h, 1 ≤ h → h < n → PreOK P N h (pres.getD (h - 1) [])
  len : pres.length = n - 1
  steps : stepsB T pres = true
  start : ∃ st ∈ T.flatten, st.p.map Int.ofNat = iota n ∧ (∀ j, j < N → (d4 st.r j : Rat) = unitJ j) ∧ st.s = true
  fin : allSt T (finB Tr N) = true
  ne : ∀ st ∈ T.flatten, st.p ≠ []
def sgB (s : Bool) : Int := if s then 1 else -1
theorem one_state {n N Tr : Nat} {S : List (List Nat)} {P : List Nat} (H : MJ n N S P Tr) {T : List (List JSt)} {pres : List (List (List Nat × List Nat))} (K : OneOK n N P Tr T pres) : ∀ ys : List Int, NWord n ys →
    ∃ st ∈ T.flatten, st.p.map Int.ofNat = strandsL n ys.reverse ∧ (∀ j, j < N → wordJ P N 1 ys.reverse unitJ j = (d4 st.r j : Rat)) ∧ signJ (sumL ys.reverse) = sgB st.s
  | [], _ => by
    obtain ⟨st, h1, h2, h3, h4⟩ := K.start
    exact ⟨st, h1, h2, fun j hj => (h3 j hj).symm, by rw [h4]; decide⟩
  | x :: ys, hw => by
    obtain ⟨st, h1, h2, h3, h4⟩ := one_state H K ys fun z hz => hw z (by simp [hz])
    have hx := hw x (by simp)
    have hs := allSt_of K.steps h1
    obtain ⟨st2, g0, g1, g2, g3⟩ := nextB_of pres st.nx 1 hs (x.natAbs - 1) (by rw [K.len]; omega)
    rw [show 1 + (x.natAbs - 1) = x.natAbs by omega] at g1
    have hm : st2 ∈ T.flatten := by
      rcases stAt_mem T (st.nx.getD (x.natAbs - 1) 0) with h | h
      · rw [g0]; exact h
      · rw [← g0, ← g1] at h
        exact absurd h (swN_ne (K.ne st h1) _)
    refine ⟨st2, hm, ?_, fun j hj => ?_, ?_⟩
    · rw [List.reverse_cons]
      unfold strandsL at h2 ⊢
      rw [List.foldl_append, ← h2, ← g1]
      exact (swS_nat st.p x).symm
    · rw [List.reverse_cons, wordJ_append]
      exact step_row H (K.pre x.natAbs (by omega) hx.2) g2 h3 j hj
    · rw [List.reverse_cons, sumL_append, sumL_one]
      have e : sgnI x = 1 ∨ sgnI x = -1 := by unfold sgnI; split <;> simp
      have f : signJ (sumL ys.reverse + sgnI x) = -signJ (sumL ys.reverse) := by
        rcases e with e | e <;> rw [e]
        · exact (signJ_succ _).1
        · exact (signJ_succ _).2
      rw [f, h4]
      cases h5 : st.s <;> cases h6 : st2.s <;> rw [h5, h6] at g3 <;> first | rfl | cases g3

/-! ### The end -/
theorem pow_two_sign (e : Nat) : (-2 : Rat) ^ e = if e % 2 = 0 then ((2 ^ e : Nat) : Rat) else -((2 ^ e : Nat) : Rat) := by
  induction e with
  | zero => simp
  | succ e ih =>
    rw [Rat.pow_succ, ih, Nat.pow_succ, Rat.natCast_mul]
    by_cases h : e % 2 = 0
    · rw [if_pos h, if_neg (by omega)]; grind
    · rw [if_neg h, if_pos (by omega)]; grind
theorem finS_of (Tr R : Nat) : ∀ N, sumQ N (fun i => (d4 R i : Rat) * (-2) ^ (dg Tr i - 1)) = ((finS Tr R N).1 : Rat) - ((finS Tr R N).2 : Rat)
  | 0 => by simp [finS, sumQ]; grind
  | N + 1 => by
    rw [sumQ, finS_of Tr R N, pow_two_sign, show finS Tr R (N + 1) = (bif Nat.beq ((dg Tr N - 1) % 2) 0 then ((finS Tr R N).1 + d4 R N * 2 ^ (dg Tr N - 1), (finS Tr R N).2) else ((finS Tr R N).1, (finS Tr R N).2 + d4 R N * 2 ^ (dg Tr N - 1))) from rfl]
    by_cases h : (dg Tr N - 1) % 2 = 0
    · have hb : Nat.beq ((dg Tr N - 1) % 2) 0 = true := by rw [h]; rfl
      rw [if_pos h]
      simp only [hb, cond_true, Rat.natCast_add, Rat.natCast_mul]
      generalize ((2 ^ (dg Tr N - 1) : Nat) : Rat) = z
      grind
    · have hb : Nat.beq ((dg Tr N - 1) % 2) 0 = false := by
        cases hq : Nat.beq ((dg Tr N - 1) % 2) 0 with
        | false => rfl
        | true => exact absurd (Nat.eq_of_beq_eq_true hq) h
      rw [if_neg h]
      simp only [hb, cond_false, Rat.natCast_add, Rat.natCast_mul]
      generalize ((2 ^ (dg Tr N - 1) : Nat) : Rat) = z
      grind
theorem fin_value {Tr N : Nat} {st : JSt} (h : finB Tr N st = true) : (((finS Tr st.r N).1 : Rat) - ((finS Tr st.r N).2 : Rat)) * (sgB st.s : Rat) = (-2) ^ (st.c - 1) := by
  rw [pow_two_sign]
  unfold finB at h
  generalize finS Tr st.r N = q at h ⊢
  obtain ⟨a, b⟩ := q
  have m1 : ((-1 : Int) : Rat) = -1 := by simp
  have p1 : ((1 : Int) : Rat) = 1 := by simp
  by_cases hc : (st.c - 1) % 2 = 0
  · have hb : Nat.beq ((st.c - 1) % 2) 0 = true := by rw [hc]; rfl
    rw [if_pos hc]
    cases hs : st.s with
    | true =>
      simp only [hb, hs, Bool.xor_self, cond_false] at h
      have := congrArg (fun k : Nat => (k : Rat)) (Nat.eq_of_beq_eq_true h)
      simp only [Rat.natCast_add] at this
      simp only [sgB, if_true, p1]; grind
    | false =>
      simp only [hb, hs, Bool.false_xor, cond_true] at h
      have := congrArg (fun k : Nat => (k : Rat)) (Nat.eq_of_beq_eq_true h)
      simp only [Rat.natCast_add] at this
      simp only [sgB, Bool.false_eq_true, if_false, m1]; grind
  · have hb : Nat.beq ((st.c - 1) % 2) 0 = false := by
      cases hq : Nat.beq ((st.c - 1) % 2) 0 with
      | false => rfl
      | true => exact absurd (Nat.eq_of_beq_eq_true hq) hc
    rw [if_neg hc]
    cases hs : st.s with
    | true =>
      simp only [hb, hs, Bool.true_xor, Bool.not_false, cond_true] at h
      have := congrArg (fun k : Nat => (k : Rat)) (Nat.eq_of_beq_eq_true h)
      simp only [Rat.natCast_add] at this
      simp only [sgB, if_true, p1]; grind
    | false =>
      simp only [hb, hs, Bool.false_xor, cond_false] at h
      have := congrArg (fun k : Nat => (k : Rat)) (Nat.eq_of_beq_eq_true h)
      simp only [Rat.natCast_add] at this
      simp only [sgB, Bool.false_eq_true, if_false, m1]; grind
theorem one_value {n N Tr : Nat} {S : List (List Nat)} {P : List Nat} (H : MJ n N S P Tr) {T : List (List JSt)} {pres : List (List (List Nat × List Nat))} (K : OneOK n N P Tr T pres) {xs : List Int} (hw : NWord n xs) :
    ∃ st ∈ T.flatten, st.p.map Int.ofNat = strandsL n xs ∧ jonesV P N Tr 1 xs = (-2) ^ (st.c - 1) := by
  obtain ⟨st, h1, h2, h3, h4⟩ := one_state H K xs.reverse fun z hz => hw z (by simpa using hz)
  rw [List.reverse_reverse] at h2 h3 h4
  refine ⟨st, h1, h2, ?_⟩
  unfold jonesV bracketJ
  rw [sumQ_congr (g := fun i => (d4 st.r i : Rat) * (-2) ^ (dg Tr i - 1)) (fun i hi => by rw [h3 i hi, dl_one]), finS_of, h4, one_zp, Rat.mul_one]
  exact fin_value (allSt_of K.fin h1)

end Go.Proofs.Ytckopilciekfbaa

namespace Go.Proofs.Ytckopilciekfbaa
open Go.RowKit Go.Sl Go.TL

theorem itr_mod {a : List Int} {m j : Nat} (hm : 0 < m) (h : itr a m j = j) : ∀ k, ∃ i, i < m ∧ itr a k j = itr a i j := by
  intro k
  induction k using Nat.strongRecOn with
  | ind k ih =>
    by_cases hk : k < m
    · exact ⟨k, hk, rfl⟩
    · obtain ⟨i, hi, e⟩ := ih (k - m) (by omega)
      refine ⟨i, hi, ?_⟩
      rw [← e, show k = (k - m) + m by omega, itr_add, h, show k - m + m - m = k - m by omega]
theorem cntN_list (P : Nat → Prop) [DecidablePred P] : ∀ n, cntN P n = ((List.range n).filter fun i => decide (P i)).length
  | 0 => rfl
  | n + 1 => by
    rw [cntN, cntN_list P n, List.range_succ, List.filter_append, List.length_append]
    by_cases h : P n
    · rw [if_pos h]; simp [h]
    · rw [if_neg h]; simp [h]
def cycB (n : Nat) (st : JSt) : Bool :=
  let a := backL (st.p.map Int.ofNat)
  Nat.blt 0 st.m && Nat.blt 0 st.c && allB (fun j => Nat.beq (itr a st.m j) j) n && Nat.beq ((List.range n).filter fun j => (List.range st.m).all fun k => decide (j ≤ itr a k j)).length st.c && Nat.beq st.p.length n
theorem cyc_len {n : Nat} {st : JSt} (h : cycB n st = true) {L : List Nat} (hL : CycOK (backL (st.p.map Int.ofNat)) L) : 1 ≤ L.length ∧ L.length = st.c := by
  unfold cycB at h
  simp only [Bool.and_eq_true] at h
  obtain ⟨⟨⟨⟨h1, h2⟩, h3⟩, h4⟩, h5⟩ := h
  have hm := Nat.blt_eq.mp h1
  have hc := Nat.blt_eq.mp h2
  have hl : (backL (st.p.map Int.ofNat)).length = n := by rw [backL_length, List.length_map]; exact Nat.eq_of_beq_eq_true h5
  have e := hL.reps
  rw [hl] at e
  have e2 : cntN (fun j => ∀ k, j ≤ itr (backL (st.p.map Int.ofNat)) k j) n = cntN (fun j => ((List.range st.m).all fun k => decide (j ≤ itr (backL (st.p.map Int.ofNat)) k j)) = true) n := cntN_congr n fun j hj => by
    have hp := Nat.eq_of_beq_eq_true (allB_of h3 j hj)
    simp only [List.all_eq_true, List.mem_range, decide_eq_true_eq]
    constructor
    · intro h k _; exact h k
    · intro h k
      obtain ⟨i, hi, e⟩ := itr_mod hm hp k
      rw [e]; exact h i hi
  rw [e2, cntN_list] at e
  have e3 := Nat.eq_of_beq_eq_true h4
  have e4 : L.length = st.c := by
    rw [e, ← e3]
    congr 1
    exact List.filter_congr fun x _ => Bool.decide_eq_true
  exact ⟨by omega, e4⟩
theorem d4_one (j : Nat) : (d4 1 j : Rat) = unitJ j := by
  unfold unitJ
  by_cases h : j = 0
  · subst h; rfl
  · rw [if_neg h]
    have : d4 1 j = 0 := by
      show (1 >>> (4 * j)) % 16 = 0
      rw [Nat.shiftRight_eq_div_pow, Nat.div_eq_of_lt (Nat.one_lt_two_pow (by omega))]
    rw [this]; rfl
theorem oneOK_of {n N : Nat} {P : List Nat} {Tr : Nat} {T : List (List JSt)} {pres : List (List (List Nat × List Nat))} (hpre : ∀ h : Fin n, 1 ≤ h.val → preB P N h.val (pres.getD (h.val - 1) []) = true) (hl : pres.length = n - 1) (hs : stepsB T pres = true)
    (h0 : (stAt T 0).p.map Int.ofNat = iota n ∧ (stAt T 0).r = 1 ∧ (stAt T 0).s = true ∧ (stAt T 0).p ≠ []) (hf : allSt T (finB Tr N) = true) (hc : allSt T (cycB n) = true) (hn : 0 < n) : OneOK n N P Tr T pres := by
  have hne : ∀ st ∈ T.flatten, st.p ≠ [] := fun st hm e => by
    have h := allSt_of hc hm
    unfold cycB at h
    simp only [Bool.and_eq_true] at h
    have := Nat.eq_of_beq_eq_true h.2
    rw [e] at this
    simp at this
    omega
  refine ⟨fun h h1 h2 => preOK_of (hpre ⟨h, h2⟩ h1), hl, hs, ⟨stAt T 0, ?_, h0.1, fun j _ => ?_, h0.2.2.1⟩, hf, hne⟩
  · rcases stAt_mem T 0 with h | h
    · exact h
    · exact absurd h h0.2.2.2
  · rw [h0.2.1]; exact d4_one j
/-- What is said of all words. -/
theorem one_of {n N Tr : Nat} {S : List (List Nat)} {P : List Nat} (H : MJ n N S P Tr) {T : List (List JSt)} {pres : List (List (List Nat × List Nat))} (K : OneOK n N P Tr T pres) (hc : allSt T (cycB n) = true) :
    ∀ xs, NWord n xs → ∀ L, CycOK (backL (strandsL n xs)) L → 1 ≤ L.length ∧ jonesV P N Tr 1 xs = (-2) ^ (L.length - 1) := fun xs hw L hL => by
  obtain ⟨st, h1, h2, h3⟩ := one_value H K hw
  rw [← h2] at hL
  obtain ⟨g1, g2⟩ := cyc_len (allSt_of hc h1) hL
  exact ⟨g1, by rw [h3, g2]⟩
theorem cyc2 : allSt jSt2 (cycB 2) = true := by decide +kernel
theorem one2 : OneOK 2 2 mP2 mT2 jSt2 jPre2 := oneOK_of (by decide +kernel) (by decide +kernel) jSteps2 (by decide +kernel) (by decide +kernel) cyc2 (by decide)
theorem cyc3 : allSt jSt3 (cycB 3) = true := by decide +kernel
theorem one3 : OneOK 3 5 mP3 mT3 jSt3 jPre3 := oneOK_of (by decide +kernel) (by decide +kernel) jSteps3 (by decide +kernel) (by decide +kernel) cyc3 (by decide)
theorem cyc4 : allSt jSt4 (cycB 4) = true := by decide +kernel
theorem one4 : OneOK 4 14 mP4 mT4 jSt4 jPre4 := oneOK_of (by decide +kernel) (by decide +kernel) jSteps4 (by decide +kernel) (by decide +kernel) cyc4 (by decide)
theorem cyc5 : allSt jSt5 (cycB 5) = true := by decide +kernel
theorem one5 : OneOK 5 42 mP5 mT5 jSt5 jPre5 := oneOK_of (by decide +kernel) (by decide +kernel) jSteps5 (by decide +kernel) (by decide +kernel) cyc5 (by decide)
theorem cyc6 : allSt jSt6 (cycB 6) = true := by decide +kernel
theorem one6 : OneOK 6 132 mP6 mT6 jSt6 jPre6 := oneOK_of (by decide +kernel) (by decide +kernel) jSteps6 (by decide +kernel) (by decide +kernel) cyc6 (by decide)
theorem one_all (n : Nat) (h2 : 2 ≤ n) (h6 : n ≤ 6) : ∃ N S P Tr, MJ n N S P Tr ∧ ∀ xs, NWord n xs → ∀ L, CycOK (backL (strandsL n xs)) L → 1 ≤ L.length ∧ jonesV P N Tr 1 xs = (-2) ^ (L.length - 1) := by
  obtain rfl | rfl | rfl | rfl | rfl : n = 2 ∨ n = 3 ∨ n = 4 ∨ n = 5 ∨ n = 6 := by omega
  · exact ⟨_, _, _, _, mj2, one_of mj2 one2 cyc2⟩
  · exact ⟨_, _, _, _, mj3, one_of mj3 one3 cyc3⟩
  · exact ⟨_, _, _, _, mj4, one_of mj4 one4 cyc4⟩
  · exact ⟨_, _, _, _, mj5, one_of mj5 one5 cyc5⟩
  · exact ⟨_, _, _, _, mj6, one_of mj6 one6 cyc6⟩

end Go.Proofs.Ytckopilciekfbaa

namespace Go.Proofs.Ytckopilciekfbaa
open Go.RowKit Go.Sl

/-- The inversions of two labels. -/
def ii (u v : Nat) : List Nat → Int → Int
  | [], _ => 0
  | l :: ls, c => (if l = u then c else 0) + ii u v ls (if l = v then c + 1 else c)
/-- Every pair counted so that each crossing counts twice. -/
def wt (F : Nat → Nat → Int) : Nat → Nat → Int := fun u v => F u v + (if u = v then F u v else 0)
end Go.Proofs.Ytckopilciekfbaa


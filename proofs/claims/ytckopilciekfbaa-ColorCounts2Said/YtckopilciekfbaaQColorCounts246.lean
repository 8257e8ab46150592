/- Colorings as an action on numbers; the numbers of colorings and the determinant. Plain algebra. -/
import Derived.Test.YtckopilciekfbaaQColorCounts20
import Derived.Test.YtckopilciekfbaaQColorCounts21
import Derived.Test.YtckopilciekfbaaQColorCounts22
import Derived.Test.YtckopilciekfbaaQColorCounts23
import Derived.Test.YtckopilciekfbaaQColorCounts24
import Derived.Test.YtckopilciekfbaaQColorCounts25
import Derived.Test.YtckopilciekfbaaQColorCounts26
import Derived.Test.YtckopilciekfbaaQColorCounts27
import Derived.Test.YtckopilciekfbaaQColorCounts28
import Derived.Test.YtckopilciekfbaaQColorCounts29
import Derived.Test.YtckopilciekfbaaQColorCounts210
import Derived.Test.YtckopilciekfbaaQColorCounts211
import Derived.Test.YtckopilciekfbaaQColorCounts212
import Derived.Test.YtckopilciekfbaaQColorCounts213
import Derived.Test.YtckopilciekfbaaQColorCounts214
import Derived.Test.YtckopilciekfbaaQColorCounts215
import Derived.Test.YtckopilciekfbaaQColorCounts216
import Derived.Test.YtckopilciekfbaaQColorCounts217
import Derived.Test.YtckopilciekfbaaQColorCounts218
import Derived.Test.YtckopilciekfbaaQColorCounts219
import Derived.Test.YtckopilciekfbaaQColorCounts220
import Derived.Test.YtckopilciekfbaaQColorCounts221
import Derived.Test.YtckopilciekfbaaQColorCounts222
import Derived.Test.YtckopilciekfbaaQColorCounts223
import Derived.Test.YtckopilciekfbaaQColorCounts224
import Derived.Test.YtckopilciekfbaaQColorCounts225
import Derived.Test.YtckopilciekfbaaQColorCounts226
import Derived.Test.YtckopilciekfbaaQColorCounts227
import Derived.Test.YtckopilciekfbaaQColorCounts228
import Derived.Test.YtckopilciekfbaaQColorCounts229
import Derived.Test.YtckopilciekfbaaQColorCounts230
import Derived.Test.YtckopilciekfbaaQColorCounts231
import Derived.Test.YtckopilciekfbaaQColorCounts233
import Derived.Test.YtckopilciekfbaaQColorCounts234
import Derived.Test.YtckopilciekfbaaQColorCounts235
import Derived.Test.YtckopilciekfbaaQColorCounts236
import Derived.Test.YtckopilciekfbaaQColorCounts237
import Derived.Test.YtckopilciekfbaaQColorCounts238
import Derived.Test.YtckopilciekfbaaQColorCounts239
import Derived.Test.YtckopilciekfbaaQColorCounts241
import Derived.Test.YtckopilciekfbaaQColorCounts242
import Derived.Test.YtckopilciekfbaaQColorCounts243
import Derived.Test.YtckopilciekfbaaQColorCounts244
import Derived.Shelf.Strings.Builder1
import Derived.Deep.RegionWith
import Derived.RangeFuncNested
import Derived.RangeFuncCalls
import Derived.OrdersIn
import Derived.OrdersHeld
import Derived.Deep.RegionHeld
import Derived.Deep.CutRange
import Derived.RangeFuncBound
import Derived.RangeFuncLeaves
import Derived.RangeFuncBox
import Derived.Shelf.Abstract
import Derived.Shelf.RegionOpen
import Derived.OwnWalkIn
import Derived.TacticsInMore
import Derived.LoopNIn
import Derived.LoopIn
import Derived.Maps.AppendAt
import Derived.Deep.RegionHeld3
namespace Go.Proofs.Ytckopilciekfbaa
open Go.RowKit Go.Sl
open Go.Det (sumN dt mul upd Alt uni sgN skp)

def lsum (g : Nat → Int) : List Nat → Int
  | [] => 0
  | x :: l => g x + lsum g l
theorem sumN_first (f : Nat → Int) (m : Nat) : sumN f (m + 1) = f 0 + sumN (fun j => f (j + 1)) m := by
  induction m with
  | zero => simp only [sumN]; grind
  | succ m ih => rw [sumN, ih]; simp only [sumN]; grind
theorem lsum_getD (g : Nat → Int) (l : List Nat) : sumN (fun j => g (l.getD j 0)) l.length = lsum g l := by
  induction l with
  | nil => rfl
  | cons x l ih =>
    rw [List.length_cons, sumN_first, lsum, ← ih]
    rfl
theorem lsum_pick {l : List Nat} (hl : l.Nodup) (x : Nat) (f : Nat → Int) : lsum (fun y => (if x = y then 1 else 0) * f y) l = if x ∈ l then f x else 0 := by
  induction l with
  | nil => rfl
  | cons y l ih =>
    have hn := List.nodup_cons.1 hl
    rw [lsum, ih hn.2]
    by_cases e : x = y
    · subst e; rw [if_pos rfl, if_neg hn.1, if_pos (by simp)]; omega
    · rw [if_neg e]
      by_cases e2 : x ∈ l
      · rw [if_pos e2, if_pos (by simp [e2])]; omega
      · rw [if_neg e2, if_neg (by simp [e, e2])]; omega
theorem lsum_sum {n : Nat} (g : Nat → Int) : ∀ l : List Nat, l.Nodup → (∀ x ∈ l, x < n) → sumN (fun k => if k ∈ l then g k else 0) n = lsum g l := by
  intro l
  induction l with
  | nil => intro _ _; exact Go.Det.sumN_zero n fun k _ => by simp
  | cons x l ih =>
    intro hl hx
    have hn := List.nodup_cons.1 hl
    rw [lsum, ← ih hn.2 (fun y hy => hx y (by simp [hy]))]
    have e : ∀ k, k < n → (if k ∈ x :: l then g k else 0) = 1 * ((if x = k then 1 else 0) * g k) + 1 * (if k ∈ l then g k else 0) := fun k _ => by
      by_cases e : x = k
      · subst e; rw [if_pos (by simp), if_pos rfl, if_neg hn.1]; omega
      · rw [if_neg e]
        by_cases e2 : k ∈ l
        · rw [if_pos e2, if_pos (by simp [e2])]; omega
        · rw [if_neg e2, if_neg (by simp [Ne.symm e, e2])]; omega
    rw [Go.Det.sumN_congr n e, Go.Det.sumN_lin, sumN_ind n g x, if_pos (hx x (by simp))]; omega
theorem pig_le : ∀ (X J : List Nat), X.Nodup → (∀ x ∈ X, x ∈ J) → X.length ≤ J.length := by
  intro X
  induction X with
  | nil => intro J _ _; exact Nat.zero_le _
  | cons x X ih =>
    intro J hn hs
    have hx := hs x (by simp)
    have h1 := ih (J.erase x) (List.nodup_cons.1 hn).2 fun y hy => by
      have hne : y ≠ x := fun e => (List.nodup_cons.1 hn).1 (e ▸ hy)
      exact (List.mem_erase_of_ne hne).2 (hs y (List.mem_cons_of_mem _ hy))
    rw [List.length_erase_of_mem hx] at h1
    have := List.length_pos_of_mem hx
    simp only [List.length_cons]; omega

/-- A mask of positions. -/
def maskP (P : Nat → Bool) : Nat → Nat
  | 0 => 0
  | n + 1 => maskP P n + if P n then 2 ^ n else 0
theorem bits_add : ∀ n : Fin 6, ∀ m : Fin 64, m.val < 2 ^ n.val → bits6 (m.val + 2 ^ n.val) = bits6 m.val ++ [n.val] := by decide +kernel
theorem bits_maskP (P : Nat → Bool) : ∀ n, n ≤ 6 → maskP P n < 2 ^ n ∧ bits6 (maskP P n) = (List.range n).filter P := by
  intro n
  induction n with
  | zero => intro _; exact ⟨Nat.one_pos, show bits6 0 = [] by decide⟩
  | succ n ih =>
    intro hn
    obtain ⟨h1, h2⟩ := ih (by omega)
    have h64 := pow_le64 ⟨n, by omega⟩
    simp only at h64
    rw [List.range_succ, List.filter_append, ← h2, maskP, Nat.pow_succ]
    by_cases e : P n = true
    · have h3 := bits_add ⟨n, by omega⟩ ⟨maskP P n, by omega⟩ h1
      simp only at h3
      rw [if_pos e, h3, List.filter_cons_of_pos (by simpa using e)]
      exact ⟨by omega, rfl⟩
    · rw [if_neg e, List.filter_cons_of_neg (by simpa using e)]
      exact ⟨by omega, by simp⟩

section
variable {a : List Int} {L : List Nat} {n : Nat}
/-- A point's way, within the list. -/
def Way (a : List Int) (cs : List Nat) (x y : Nat) : Prop := ∃ t, itr a t x = y ∧ ∀ s, s ≤ t → itr a s x ∈ cs
theorem way_iff {cs : List Nat} {x y : Nat} (hx : x ∈ cs) : Way a cs x y ↔ x = y ∨ Way a cs (nth a x).toNat y := by
  have e1 : ∀ k, itr a (k + 1) x = itr a k (nth a x).toNat := fun k => by rw [itr_add]; rfl
  constructor
  · rintro ⟨t, h1, h2⟩
    cases t with
    | zero => exact .inl h1
    | succ t => exact .inr ⟨t, by rw [← e1]; exact h1, fun s hs => by rw [← e1]; exact h2 (s + 1) (by omega)⟩
  · rintro (rfl | ⟨t, h1, h2⟩)
    · exact ⟨0, rfl, fun s hs => by rw [show s = 0 by omega]; exact hx⟩
    · refine ⟨t + 1, by rw [e1]; exact h1, fun s hs => ?_⟩
      cases s with
      | zero => exact hx
      | succ s => rw [e1]; exact h2 s (by omega)
theorem way_not {cs : List Nat} {x : Nat} (hx : x ∈ cs) (hst : ∃ s, itr a s x ∉ cs) : ¬ Way a cs (nth a x).toNat x := by
  rintro ⟨t, h1, h2⟩
  have e1 : ∀ k, itr a (k + 1) x = itr a k (nth a x).toNat := fun k => by rw [itr_add]; rfl
  obtain ⟨s, hs⟩ := hst
  apply hs
  induction s using Nat.strongRecOn with
  | _ s ih =>
    by_cases h : s ≤ t + 1
    · cases s with
      | zero => exact hx
      | succ s => rw [e1]; exact h2 s (by omega)
    · have h3 : itr a s x = itr a (s - (t + 1)) x := by
        have h4 := itr_add a (s - (t + 1)) (t + 1) x
        rw [Nat.sub_add_cancel (by omega), e1, h1] at h4
        exact h4
      rw [h3]
      by_cases h5 : itr a (s - (t + 1)) x ∈ cs
      · exact h5
      · exact absurd (ih (s - (t + 1)) (by omega) h5) h5
theorem nodup_getD {cs : List Nat} (h : cs.Nodup) {i j : Nat} (hi : i < cs.length) (hj : j < cs.length) : cs.getD i 0 = cs.getD j 0 ↔ i = j := by
  rw [List.getD_eq_getElem?_getD, List.getD_eq_getElem?_getD, List.getElem?_eq_getElem hi, List.getElem?_eq_getElem hj]
  simp only [Option.getD_some]
  have hp := List.pairwise_iff_getElem.1 h
  constructor
  · intro e
    rcases Nat.lt_trichotomy i j with q | q | q
    · exact absurd e (hp i j hi hj q)
    · exact q
    · exact absurd e.symm (hp j i hj hi q)
  · intro e; subst e; rfl
theorem mem_getD {cs : List Nat} {i : Nat} (hi : i < cs.length) : cs.getD i 0 ∈ cs := by
  rw [List.getD_eq_getElem?_getD, List.getElem?_eq_getElem hi]; exact List.getElem_mem hi
theorem boolOf (P : Nat → Prop) : ∃ f : Nat → Bool, ∀ i, f i = true ↔ P i := by
  have dec : ∀ p : Prop, Decidable p := fun p => Classical.propDecidable p
  exact ⟨fun i => @decide (P i) (dec _), fun i => @decide_eq_true_iff (P i) (dec _)⟩
theorem indic2 (W : Nat → Nat → Prop) : ∃ X : Nat → Nat → Int, (∀ x y, W x y → X x y = 1) ∧ ∀ x y, ¬ W x y → X x y = 0 := by
  have dec : ∀ p : Prop, Decidable p := fun p => Classical.propDecidable p
  refine ⟨fun x y => @ite _ (W x y) (dec _) 1 0, fun x y h => ?_, fun x y h => ?_⟩
  · show @ite _ (W x y) (dec _) (1 : Int) 0 = 1
    rw [if_pos h]
  · show @ite _ (W x y) (dec _) (1 : Int) 0 = 0
    rw [if_neg h]
/-- Points that all lead out: the minor is 1 or -1. -/
theorem minor_ways {cs : List Nat} (hn : cs.Nodup) (hst : ∀ x ∈ cs, ∃ s, itr a s x ∉ cs) :
    dt cs.length (fun i j => (uni i j - if (nth a (cs.getD i 0)).toNat = cs.getD j 0 then 1 else 0 : Int)) = 1 ∨ dt cs.length (fun i j => (uni i j - if (nth a (cs.getD i 0)).toNat = cs.getD j 0 then 1 else 0 : Int)) = -1 := by
  obtain ⟨X, hX1, hX0⟩ := indic2 (Way a cs)
  have h := Go.Det.dt_mul cs.length (fun i j => (uni i j - if (nth a (cs.getD i 0)).toNat = cs.getD j 0 then 1 else 0 : Int)) (fun i j => X (cs.getD i 0) (cs.getD j 0))
  rw [Go.Det.dt_congr (B := uni) (fun i j hi hj => ?_), Go.Det.dt_uni] at h
  · obtain ⟨x, hx⟩ : ∃ x, dt cs.length (fun i j => (uni i j - if (nth a (cs.getD i 0)).toNat = cs.getD j 0 then 1 else 0 : Int)) = x := ⟨_, rfl⟩
    obtain ⟨y, hy⟩ : ∃ y, dt cs.length (fun i j => X (cs.getD i 0) (cs.getD j 0)) = y := ⟨_, rfl⟩
    rw [hx, hy] at h
    rw [hx]
    have h2 := congrArg Int.natAbs h
    rw [Int.natAbs_mul] at h2
    have h3 := Nat.eq_one_of_mul_eq_one_right h2.symm
    omega
  · unfold mul
    have e : ∀ k, k < cs.length → (uni i k - if (nth a (cs.getD i 0)).toNat = cs.getD k 0 then 1 else 0 : Int) * X (cs.getD k 0) (cs.getD j 0) =
        1 * ((if cs.getD i 0 = cs.getD k 0 then 1 else 0) * X (cs.getD k 0) (cs.getD j 0)) + (-1) * ((if (nth a (cs.getD i 0)).toNat = cs.getD k 0 then 1 else 0) * X (cs.getD k 0) (cs.getD j 0)) := fun k hk => by
      have : (uni i k : Int) = if cs.getD i 0 = cs.getD k 0 then 1 else 0 := by
        unfold uni
        by_cases q : i = k
        · rw [if_pos q, if_pos (by rw [q])]
        · rw [if_neg q, if_neg (fun r => q ((nodup_getD hn hi hk).1 r))]
      rw [this]; grind
    rw [Go.Det.sumN_congr _ e, Go.Det.sumN_lin, lsum_getD (fun y => (if cs.getD i 0 = y then 1 else 0) * X y (cs.getD j 0)) cs, lsum_getD (fun y => (if (nth a (cs.getD i 0)).toNat = y then 1 else 0) * X y (cs.getD j 0)) cs,
      lsum_pick hn _ (fun y => X y (cs.getD j 0)), lsum_pick hn _ (fun y => X y (cs.getD j 0)), if_pos (mem_getD hi)]
    have hi2 := mem_getD hi
    have hne := way_not hi2 (hst _ hi2)
    have hiff := way_iff (a := a) (y := cs.getD j 0) hi2
    have hout : (if (nth a (cs.getD i 0)).toNat ∈ cs then X (nth a (cs.getD i 0)).toNat (cs.getD j 0) else 0) = X (nth a (cs.getD i 0)).toNat (cs.getD j 0) := by
      by_cases q : (nth a (cs.getD i 0)).toNat ∈ cs
      · rw [if_pos q]
      · rw [if_neg q, hX0 _ _ (fun ⟨t, _, h2⟩ => q (h2 0 (Nat.zero_le _)))]
    rw [hout]
    unfold uni
    by_cases q : i = j
    · subst q
      rw [hX1 _ _ (hiff.2 (.inl rfl)), hX0 _ _ hne, if_pos rfl]; omega
    · rw [if_neg q]
      have q2 : cs.getD i 0 ≠ cs.getD j 0 := fun r => q ((nodup_getD hn hi hj).1 r)
      by_cases w : Way a cs (nth a (cs.getD i 0)).toNat (cs.getD j 0)
      · rw [hX1 _ _ w, hX1 _ _ (hiff.2 (.inr w))]; omega
      · rw [hX0 _ _ w, hX0 _ _ (fun h => (hiff.1 h).elim q2 w)]; omega

/-- The permutation's matrix less the identity. -/
def pmI (a : List Int) (n : Nat) : List (List Int) := matI n fun i k => (if (nth a k).toNat = i then 1 else 0) - if i = k then 1 else 0
theorem ent_matI {F : Nat → Nat → Int} {i k : Nat} (hi : i < n) (hk : k < n) : ent2 (matI n F) i k = F i k := by unfold ent2; rw [nthr_matI hi, nth_row hk]
def Rep (a : List Int) (j : Nat) : Prop := ∀ k, j ≤ itr a k j
theorem reach_rep (hl : a.length = n) (ha : IsPerm a) : ∀ x, x < n → ∃ t, Rep a (itr a t x) := by
  intro x
  induction x using Nat.strongRecOn with
  | _ x ih =>
    intro hx
    by_cases h : Rep a x
    · exact ⟨0, h⟩
    · have : ∃ k, itr a k x < x := Classical.byContradiction fun hn => h fun k => by
        rcases Nat.lt_or_ge (itr a k x) x with h | h
        · exact absurd ⟨k, h⟩ hn
        · exact h
      obtain ⟨k, hk⟩ := this
      obtain ⟨t, ht⟩ := ih _ hk (by omega)
      exact ⟨t + k, by rw [itr_add]; exact ht⟩
theorem cnt_filter (P : Nat → Prop) (f : Nat → Bool) (hf : ∀ i, f i = true ↔ P i) (n : Nat) : cntN P n = ((List.range n).filter f).length ∧ cntN P n + ((List.range n).filter fun i => !f i).length = n := by
  induction n with
  | zero => exact ⟨rfl, rfl⟩
  | succ n ih =>
    rw [cntN, List.range_succ, List.filter_append, List.filter_append, List.length_append, List.length_append]
    by_cases e : P n
    · have : f n = true := (hf n).2 e
      rw [if_pos e, List.filter_cons_of_pos (by simpa using this), List.filter_cons_of_neg (by simpa using this)]
      simp; omega
    · have : ¬ f n = true := fun h => e ((hf n).1 h)
      rw [if_neg e, List.filter_cons_of_neg (by simpa using this), List.filter_cons_of_pos (by simpa using this)]
      simp; omega
/-- The minor of all points but one a cycle. -/
theorem pmI_unit (hn : n ≤ 6) (ha : IsPerm a) (hl : a.length = n) (h : CycOK a L) : gD (pmI a n) n (n - L.length) = 1 ∧ L.length ≤ n := by
  obtain ⟨f, hf⟩ := boolOf (Rep a)
  have hr := h.reps
  rw [hl] at hr
  obtain ⟨c1, c2⟩ := cnt_filter (Rep a) f hf n
  have hr2 : L.length = cntN (Rep a) n := hr
  obtain ⟨b1, b2⟩ := bits_maskP (fun i => !f i) n hn
  obtain ⟨cs, hcs⟩ : ∃ cs, (List.range n).filter (fun i => !f i) = cs := ⟨_, rfl⟩
  rw [hcs] at b2 c2
  have hlen : cs.length = n - L.length := by omega
  have hnd : cs.Nodup := by rw [← hcs]; exact List.nodup_range.filter _
  have hmem : ∀ x, x ∈ cs ↔ x < n ∧ ¬ Rep a x := fun x => by
    rw [← hcs, List.mem_filter, List.mem_range]
    simp only [Bool.not_eq_true', ← hf x]
    cases f x <;> simp
  have hm := minor_ways (a := a) hnd fun x hx => by
    obtain ⟨t, ht⟩ := reach_rep hl ha x ((hmem x).1 hx).1
    exact ⟨t, fun h => ((hmem _).1 h).2 ht⟩
  have hd := gD_minor (m := pmI a n) hn (k := n - L.length) (r := maskP (fun i => !f i) n) (c := maskP (fun i => !f i) n) b1 b1 (by rw [b2]; exact hlen) (by rw [b2]; exact hlen)
  rw [b2] at hd
  obtain ⟨e, he, hneg⟩ := (show ∃ e : Int, (e = 1 ∨ e = -1) ∧ ∀ A : Nat → Nat → Int, dt cs.length (fun i j => - A i j) = e * dt cs.length A by
    generalize cs.length = q
    induction q with
    | zero => exact ⟨1, .inl rfl, fun A => by simp [dt]⟩
    | succ q ih =>
      obtain ⟨e, he, h⟩ := ih
      refine ⟨-e, by omega, fun A => ?_⟩
      rw [dt, dt, ← Go.Det.sumN_mul]
      refine Go.Det.sumN_congr _ fun c _ => ?_
      rw [h (fun i j => A (i + 1) (skp c j))]; grind)
  have e1 : minD (ent2 (pmI a n)) cs cs = e * dt cs.length (fun i j => (uni i j - if (nth a (cs.getD i 0)).toNat = cs.getD j 0 then 1 else 0 : Int)) := by
    rw [← hneg, ← Go.Det.dt_turn]
    unfold minD
    refine Go.Det.dt_congr fun i j hi hj => ?_
    have i1 := ((hmem _).1 (mem_getD hi)).1
    have i2 := ((hmem _).1 (mem_getD hj)).1
    unfold pmI
    rw [ent_matI i1 i2]
    have : (uni j i : Int) = if cs.getD i 0 = cs.getD j 0 then 1 else 0 := by
      unfold uni
      by_cases q : j = i
      · rw [if_pos q, if_pos (by rw [q])]
      · rw [if_neg q, if_neg (fun r => q ((nodup_getD hnd hi hj).1 r).symm)]
    rw [this]; omega
  rw [e1] at hd
  refine ⟨?_, by omega⟩
  have hu : ((gD (pmI a n) n (n - L.length) : Nat) : Int) ∣ 1 := by
    rcases he with rfl | rfl <;> rcases hm with q | q <;> rw [q] at hd <;> first | exact hd | exact (Int.dvd_neg.1 hd)
  have := Int.natCast_dvd_natCast.1 (show ((gD (pmI a n) n (n - L.length) : Nat) : Int) ∣ ((1 : Nat) : Int) from hu)
  exact Nat.dvd_one.1 this
theorem indicZ (P : Nat → Prop) : ∃ f : Nat → Int, (∀ i, P i → f i = 1) ∧ ∀ i, ¬ P i → f i = 0 := by
  obtain ⟨f, hf⟩ := boolOf P
  refine ⟨fun i => if f i = true then 1 else 0, fun i h => ?_, fun i h => ?_⟩
  · show (if f i = true then (1 : Int) else 0) = 1
    rw [if_pos ((hf i).2 h)]
  · show (if f i = true then (1 : Int) else 0) = 0
    rw [if_neg (fun q => h ((hf i).1 q))]
/-- So many points that a whole cycle is among them. -/
theorem pmI_zero (hn : n ≤ 6) (ha : IsPerm a) (hl : a.length = n) (h : CycOK a L) {k : Nat} (hk : n - L.length < k) : gD (pmI a n) n k = 0 := by
  have hz : 0 ∣ gD (pmI a n) n k := by
    refine (gD_dvd hn k 0).2 fun r c hrn hcn h1 h2 => ?_
    have h64 := pow_le64 ⟨n, by omega⟩
    simp only at h64
    have hb := bits_all ⟨n, by omega⟩ ⟨c, by omega⟩ hcn
    simp only at hb
    have hnd : (bits6 c).Nodup := List.nodup_range.filter _
    obtain ⟨cs, hcs⟩ : ∃ cs, bits6 c = cs := ⟨_, rfl⟩
    rw [hcs] at h2 hb hnd
    -- a cycle within cs
    have hcyc : ∃ j, j < n ∧ Rep a j ∧ ∀ t, itr a t j ∈ cs := by
      refine Classical.byContradiction fun hno => ?_
      have hout : ∀ j, j < n → ∃ x, (Rep a j → (∃ t, itr a t j = x) ∧ x ∉ cs) := fun j hj => by
        by_cases hR : Rep a j
        · have : ∃ t, itr a t j ∉ cs := Classical.byContradiction fun hn2 => hno ⟨j, hj, hR, fun t => Classical.byContradiction fun q => hn2 ⟨t, q⟩⟩
          obtain ⟨t, ht⟩ := this
          exact ⟨itr a t j, fun _ => ⟨⟨t, rfl⟩, ht⟩⟩
        · exact ⟨0, fun q => absurd q hR⟩
      obtain ⟨g, hg⟩ := pickF hout
      obtain ⟨f, hf⟩ := boolOf (Rep a)
      obtain ⟨c1, _⟩ := cnt_filter (Rep a) f hf n
      have hr : L.length = cntN (Rep a) n := by have := h.reps; rw [hl] at this; exact this
      obtain ⟨Rs, hRs⟩ : ∃ Rs, (List.range n).filter f = Rs := ⟨_, rfl⟩
      rw [hRs] at c1
      have hmR : ∀ x ∈ Rs, x < n ∧ Rep a x := fun x hx => by
        rw [← hRs, List.mem_filter, List.mem_range] at hx
        exact ⟨hx.1, (hf x).1 hx.2⟩
      have hRn : Rs.Nodup := by rw [← hRs]; exact List.nodup_range.filter _
      have hinj : ∀ x ∈ Rs, ∀ y ∈ Rs, g x = g y → x = y := fun x hx y hy e => by
        obtain ⟨x1, x2⟩ := hmR x hx
        obtain ⟨y1, y2⟩ := hmR y hy
        obtain ⟨⟨t, ht⟩, _⟩ := hg x x1 x2
        obtain ⟨⟨s, hs⟩, _⟩ := hg y y1 y2
        obtain ⟨t', ht'⟩ := itr_back ha h (i := x) (by omega) ht
        obtain ⟨s', hs'⟩ := itr_back ha h (i := y) (by omega) hs
        have q1 := x2 (s' + t)
        rw [itr_add, ht, e, hs'] at q1
        have q2 := y2 (t' + s)
        rw [itr_add, hs, ← e, ht'] at q2
        omega
      have hmap : (Rs.map g).Nodup := by
        have key : ∀ Q : List Nat, Q.Nodup → (∀ x ∈ Q, x ∈ Rs) → (Q.map g).Nodup := by
          intro Q
          induction Q with
          | nil => intro _ _; simp
          | cons x Q ih =>
            intro hq hs
            have hq2 := List.nodup_cons.1 hq
            rw [List.map_cons, List.nodup_cons]
            refine ⟨fun hm => ?_, ih hq2.2 fun y hy => hs y (by simp [hy])⟩
            obtain ⟨y, hy, e⟩ := List.mem_map.1 hm
            exact hq2.1 (hinj y (hs y (by simp [hy])) x (hs x (by simp)) e ▸ hy)
        exact key Rs hRn fun x hx => hx
      have happ : (cs ++ Rs.map g).Nodup := by
        refine List.nodup_append.2 ⟨hnd, hmap, fun x hx y hy e => ?_⟩
        obtain ⟨z, hz, rfl⟩ := List.mem_map.1 hy
        have := (hg z (hmR z hz).1 (hmR z hz).2).2
        rw [e] at hx
        exact this hx
      have := pig_le (cs ++ Rs.map g) (List.range n) happ fun x hx => by
        rw [List.mem_range]
        rcases List.mem_append.1 hx with q | q
        · exact hb x q
        · obtain ⟨z, hz, rfl⟩ := List.mem_map.1 q
          obtain ⟨⟨t, ht⟩, _⟩ := hg z (hmR z hz).1 (hmR z hz).2
          rw [← ht, ← hl]
          exact itr_lt ha t (by have := (hmR z hz).1; omega)
      simp at this
      omega
    obtain ⟨j0, hj0, _, hin⟩ := hcyc
    obtain ⟨f, f1, f0⟩ := indicZ fun x => ∃ t, itr a t j0 = x
    have hinv : ∀ x, x < n → f (nth a x).toNat = f x := fun x hx => by
      by_cases e : ∃ t, itr a t j0 = x
      · obtain ⟨t, ht⟩ := e
        rw [f1 x ⟨t, ht⟩, f1 _ ⟨t + 1, by rw [itr, ht]⟩]
      · have hno : ¬ ∃ t, itr a t j0 = (nth a x).toNat := fun ⟨t, ht⟩ => by
          obtain ⟨k', hk'⟩ := itr_back ha h (i := x) (j := (nth a x).toNat) (k := 1) (by omega) rfl
          exact e ⟨k' + t, by rw [itr_add, ht, hk']⟩
        rw [f0 x e, f0 _ hno]
    have hoff : ∀ x, x < n → x ∉ cs → f x = 0 := fun x _ hx => f0 x fun ⟨t, ht⟩ => hx (ht ▸ hin t)
    obtain ⟨q, hq, hqe⟩ := List.getElem_of_mem (hin 0)
    have hq0 : cs.getD q 0 = j0 := by rw [List.getD_eq_getElem?_getD, List.getElem?_eq_getElem hq]; exact hqe
    rw [hcs]
    obtain ⟨rs, hrs⟩ : ∃ rs, bits6 r = rs := ⟨_, rfl⟩
    have hbr := bits_all ⟨n, by omega⟩ ⟨r, by omega⟩ hrn
    simp only at hbr
    rw [hrs] at h1 hbr ⊢
    have hcomb := combR (Go.Det.alt_turn rs.length) (fun j i => ent2 (pmI a n) (rs.getD i 0) (cs.getD j 0)) (fun j => f (cs.getD j 0)) (r := q) (by omega)
    have hone : f (cs.getD q 0) = 1 := by rw [hq0]; exact f1 _ ⟨0, rfl⟩
    rw [hone, Int.one_mul] at hcomb
    have hzero : ∀ i, i < rs.length → sumN (fun k => f (cs.getD k 0) * ent2 (pmI a n) (rs.getD i 0) (cs.getD k 0)) rs.length = 0 := by
      intro i hi
      have hri := hbr _ (mem_getD hi)
      rw [h1, ← h2, lsum_getD (fun y => f y * ent2 (pmI a n) (rs.getD i 0) y) cs, ← lsum_sum (n := n) _ cs hnd hb]
      -- the preimage
      obtain ⟨y0, hy0, hy1⟩ : ∃ y0, y0 < n ∧ (nth a y0).toNat = rs.getD i 0 := by
        have hm : ((rs.getD i 0 : Nat) : Int) ∈ a := ha.perm.mem_iff.2 (mem_iota.2 ⟨by omega, by omega⟩)
        obtain ⟨y0, hy0, e⟩ := List.getElem_of_mem hm
        refine ⟨y0, by omega, ?_⟩
        rw [nth_lt hy0, e, Int.toNat_natCast]
      have e : ∀ y, y < n → (if y ∈ cs then f y * ent2 (pmI a n) (rs.getD i 0) y else 0) = 1 * ((if y0 = y then 1 else 0) * f y) + (-1) * ((if rs.getD i 0 = y then 1 else 0) * f y) := fun y hy => by
        have hent : ent2 (pmI a n) (rs.getD i 0) y = (if y0 = y then 1 else 0) - if rs.getD i 0 = y then 1 else 0 := by
          unfold pmI
          rw [ent_matI hri hy, ← hy1]
          congr 1
          by_cases q : y0 = y
          · rw [if_pos q, if_pos (by rw [q])]
          · rw [if_neg q, if_neg (fun r => q (step_inj ha (by omega) (by omega) r.symm))]
        by_cases q : y ∈ cs
        · rw [if_pos q, hent]; grind
        · rw [if_neg q, hoff y hy q]; omega
      rw [Go.Det.sumN_congr n e, Go.Det.sumN_lin, sumN_ind n f y0, sumN_ind n f (rs.getD i 0), if_pos hy0, if_pos hri, ← hy1, hinv y0 hy0]; omega
    have hd0 : minD (ent2 (pmI a n)) rs cs = 0 := by
      unfold minD
      have : dt rs.length (fun i j => upd (fun j i => ent2 (pmI a n) (rs.getD i 0) (cs.getD j 0)) q (fun j => sumN (fun k => f (cs.getD k 0) * ent2 (pmI a n) (rs.getD j 0) (cs.getD k 0)) rs.length) j i) = 0 := by
        have h4 := (Go.Det.alt_turn (R := Int) rs.length).smul (fun j i => ent2 (pmI a n) (rs.getD i 0) (cs.getD j 0)) q 0 (fun _ => 0) (by omega)
        refine Eq.trans (Go.Det.dt_congr fun i j hi _ => ?_) (h4.trans (Int.zero_mul _))
        unfold upd
        by_cases e : j = q
        · rw [if_pos e, if_pos e]
          show sumN (fun k => f (cs.getD k 0) * ent2 (pmI a n) (rs.getD i 0) (cs.getD k 0)) rs.length = 0 * 0
          rw [hzero i hi]; rfl
        · rw [if_neg e, if_neg e]
      rw [this] at hcomb
      exact hcomb.symm
    rw [hd0]; exact Int.dvd_zero _
  exact Nat.eq_zero_of_zero_dvd hz
/-- As many solutions modulo 2 as the cycles say. -/
theorem pmI_two (hn : n ≤ 6) (ha : IsPerm a) (hl : a.length = n) (h : CycOK a L) : solL (smithL (pmI a n) n n) 2 n = 2 ^ L.length := by
  obtain ⟨h1, h2⟩ := pmI_unit hn ha hl h
  rw [solL_prime hn (primeZ_small (p := 2) (.inl rfl)) (fun d hd => by have := Nat.le_of_dvd (by decide) hd; have := Nat.pos_of_dvd_of_pos hd (by decide); omega), shr_count (s := n - L.length) (fun k => ?_)]
  · congr 1; omega
  · constructor
    · intro hk
      rcases Nat.lt_or_ge (n - L.length) k with q | q
      · exact q
      · have := Nat.dvd_trans hk (gD_mono hn q)
        rw [h1] at this
        have := Nat.le_of_dvd (by decide) this
        omega
    · intro hk
      rw [pmI_zero hn ha hl h hk]; exact Nat.dvd_zero _
end

end Go.Proofs.Ytckopilciekfbaa

namespace Go.Proofs.Ytckopilciekfbaa
open Go.RowKit Go.Sl
open Go.Det (sumN dt mul upd Alt uni sgN skp)

/-- A letter's step without a modulus. -/
def czs (x : Int) (f : Nat → Int) (j : Nat) : Int :=
  if 0 < x then (if j = x.natAbs - 1 then 2 * f (x.natAbs - 1) - f x.natAbs else if j = x.natAbs then f (x.natAbs - 1) else f j)
  else (if j = x.natAbs - 1 then f x.natAbs else if j = x.natAbs then 2 * f x.natAbs - f (x.natAbs - 1) else f j)
def czw (X : List Int) (f : Nat → Int) : Nat → Int := X.foldl (fun g x => czs x g) f
theorem czs_congr {x : Int} {n : Nat} (hn : x.natAbs < n) {f g : Nat → Int} (h : ∀ j, j < n → f j = g j) : ∀ j, j < n → czs x f j = czs x g j := by
  intro j hj
  unfold czs
  rw [h _ hn, h _ (show x.natAbs - 1 < n by omega), h j hj]
theorem czw_congr {n : Nat} : ∀ (X : List Int), NWord n X → ∀ f g : Nat → Int, (∀ j, j < n → f j = g j) → ∀ j, j < n → czw X f j = czw X g j := by
  intro X
  induction X with
  | nil => intro _ f g h; exact h
  | cons x X ih => intro hw f g h; exact ih (fun y hy => hw y (by simp [hy])) _ _ (czs_congr (hw x (by simp)).2 h)
theorem czs_lin (x : Int) (f g : Nat → Int) (a b : Int) : czs x (fun k => a * f k + b * g k) = fun k => a * czs x f k + b * czs x g k := by
  funext k
  unfold czs
  split <;> split <;> (try split) <;> grind
theorem czw_lin (X : List Int) : ∀ (f g : Nat → Int) (a b : Int), czw X (fun k => a * f k + b * g k) = fun k => a * czw X f k + b * czw X g k := by
  induction X with
  | nil => intro f g a b; rfl
  | cons x X ih =>
    intro f g a b
    show czw X (czs x _) = _
    rw [czs_lin, ih]; rfl
theorem czw_const (X : List Int) (e : Int) : czw X (fun _ => e) = fun _ => e := by
  induction X with
  | nil => rfl
  | cons x X ih =>
    have : czs x (fun _ => e) = fun _ => e := by funext k; unfold czs; dsimp only; split <;> split <;> (try split) <;> omega
    show czw X (czs x _) = _
    rw [this, ih]
theorem czw_sum (X : List Int) (F : Nat → Nat → Int) (i : Nat) : ∀ K, sumN (fun k => czw X (F k) i) K = czw X (fun j => sumN (fun k => F k j) K) i := by
  intro K
  induction K with
  | zero =>
    show 0 = czw X (fun _ => 0) i
    rw [czw_const]
  | succ K ih =>
    rw [sumN, ih]
    have := czw_lin X (fun j => sumN (fun k => F k j) K) (F K) 1 1
    have e : (fun j => sumN (fun k => F k j) (K + 1)) = fun j => 1 * sumN (fun k => F k j) K + 1 * F K j := by funext j; rw [sumN]; omega
    rw [e, this]
    show czw X (fun j => sumN (fun k => F k j) K) i + czw X (F K) i = 1 * czw X (fun j => sumN (fun k => F k j) K) i + 1 * czw X (F K) i
    omega
/-- The program's colors are these modulo m. -/
theorem prop_czw {m : Int} {n : Nat} : ∀ (X c : List Int) (g : Nat → Int), NWord n X → c.length = n → (∀ i, i < n → m ∣ nth c i - g i) → ∀ i, i < n → m ∣ nth (prop m c X) i - czw X g i := by
  intro X
  induction X with
  | nil => intro c g _ _ h; exact h
  | cons x X ih =>
    intro c g hw hc h
    have hx := hw x (by simp)
    refine ih (cstep m c x) (czs x g) (fun y hy => hw y (by simp [hy])) (by rw [cstep_length, hc]) fun i hi => ?_
    have hp := h (x.natAbs - 1) (by omega)
    have hq := h x.natAbs hx.2
    have hii := h i hi
    obtain ⟨p, hpp⟩ := hp
    obtain ⟨q, hqq⟩ := hq
    have hmod : ∀ z : Int, m ∣ (z + m) % m - z := fun z => by
      have := Int.emod_add_mul_ediv (z + m) m
      exact ⟨1 - (z + m) / m, by rw [Int.mul_sub]; omega⟩
    unfold cstep czs
    simp only
    by_cases hpos : 0 < x
    · rw [if_pos hpos, if_pos hpos, nth_set _ _ _ _ (by simp; omega), nth_set _ _ _ _ (by omega)]
      by_cases e1 : i = x.natAbs
      · rw [if_pos e1, if_neg (by omega), if_pos e1]; exact ⟨p, hpp⟩
      · rw [if_neg e1]
        by_cases e2 : i = x.natAbs - 1
        · rw [if_pos e2, if_pos e2]
          obtain ⟨z, hz⟩ := hmod (2 * nth c (x.natAbs - 1) - nth c x.natAbs)
          exact ⟨z + 2 * p - q, by grind⟩
        · rw [if_neg e2, if_neg e2, if_neg e1]; exact hii
    · rw [if_neg hpos, if_neg hpos, nth_set _ _ _ _ (by simp; omega), nth_set _ _ _ _ (by omega)]
      by_cases e1 : i = x.natAbs
      · rw [if_pos e1, if_neg (by omega), if_pos e1]
        obtain ⟨z, hz⟩ := hmod (2 * nth c x.natAbs - nth c (x.natAbs - 1))
        exact ⟨z + 2 * q - p, by grind⟩
      · rw [if_neg e1]
        by_cases e2 : i = x.natAbs - 1
        · rw [if_pos e2, if_pos e2]; exact ⟨q, hqq⟩
        · rw [if_neg e2, if_neg e2, if_neg e1]; exact hii
/-- The matrix of the action less the identity. -/
def Zm (X : List Int) (i k : Nat) : Int := czw X (uni k) i - uni i k
theorem uni_comm' (i k : Nat) : (uni i k : Int) = uni k i := by unfold uni; by_cases h : i = k <;> simp [h, eq_comm]
theorem nth_unitC {n k i : Nat} {e : Int} (hk : k < n) (hi : i < n) : nth (unitC n e k) i = e * uni k i := by
  unfold unitC
  rw [nth_set _ _ _ _ (by simpa using hk)]
  unfold uni
  by_cases h : i = k
  · rw [if_pos h, if_pos h.symm]; omega
  · rw [if_neg h, if_neg (Ne.symm h), nth_lt (by simpa using hi)]; simp
theorem colF_Zm {M n : Nat} {e : Int} {X : List Int} (hw : NWord n X) {i k : Nat} (hi : i < n) (hk : k < n) : (M : Int) ∣ colF M n e X i k - e * Zm X i k := by
  have h := prop_czw (m := (M : Int)) X (unitC n e k) (fun j => e * uni k j + 0 * 0) hw (unitC_length n e k) (fun j hj => by rw [nth_unitC hk hj]; exact ⟨0, by omega⟩) i hi
  rw [czw_lin X (uni k) (fun _ => 0) e 0] at h
  obtain ⟨z, hz⟩ := h
  refine ⟨z, ?_⟩
  unfold colF Zm
  rw [nth_unitC hk hi, uni_comm' i k]
  grind
theorem Zm_rows {n : Nat} {X : List Int} (hw : NWord n X) {i : Nat} (hi : i < n) : sumN (fun k => Zm X i k) n = 0 := by
  unfold Zm
  have h1 := Go.Det.sumN_lin (1 : Int) (-1) (fun k => czw X (uni k) i) (fun k => uni i k) n
  have e : ∀ k, k < n → czw X (uni k) i - uni i k = 1 * czw X (uni k) i + (-1) * uni i k := fun k _ => by omega
  have one : ∀ j, j < n → sumN (fun k => (uni k j : Int)) n = 1 := fun j hj => by
    have := sum_uniR n (fun _ => (1 : Int)) hj
    simpa using this
  rw [Go.Det.sumN_congr n e, h1, czw_sum, czw_congr X hw _ (fun _ => 1) one i hi, czw_const, Go.Det.sumN_congr n (fun k _ => uni_comm' i k), one i hi]; rfl

/-! The program's numbers of solutions. -/
section
variable {n : Nat} {X : List Int}
def colM (n M : Nat) (X : List Int) : List (List Int) := matI n (colF M n ((1 : Int) % (M : Int)) X)
theorem colM_mod (hw : NWord n X) {M p : Nat} (hM : 1 < M) (hpM : (p : Int) ∣ (M : Int)) {i k : Nat} (hi : i < n) (hk : k < n) : (p : Int) ∣ ent2 (colM n M X) i k - Zm X i k := by
  unfold colM
  rw [ent_matI hi hk, Int.emod_eq_of_lt (by omega) (by omega)]
  have h := colF_Zm (M := M) (e := 1) hw hi hk
  rw [Int.one_mul] at h
  exact Int.dvd_trans hpM h
theorem colM_same (hw : NWord n X) {M M' p : Nat} (hM : 1 < M) (hM' : 1 < M') (hpM : (p : Int) ∣ (M : Int)) (hpM' : (p : Int) ∣ (M' : Int)) {i k : Nat} (hi : i < n) (hk : k < n) : (p : Int) ∣ ent2 (colM n M X) i k - ent2 (colM n M' X) i k := by
  have h1 := colM_mod hw hM hpM hi hk
  have h2 := colM_mod hw hM' hpM' hi hk
  have := Int.dvd_sub h1 h2
  have e : ∀ a b c : Int, a - c - (b - c) = a - b := fun a b c => by omega
  rwa [e] at this
theorem p2 : ∀ d, d ∣ 2 → d = 1 ∨ d = 2 := fun d hd => by have := Nat.le_of_dvd (by decide) hd; have := Nat.pos_of_dvd_of_pos hd (by decide); omega
theorem pD : ∀ p : Fin 14, (p.val = 2 ∨ p.val = 3 ∨ p.val = 5 ∨ p.val = 7 ∨ p.val = 11 ∨ p.val = 13) → ∀ d : Fin 14, d.val ∣ p.val → d.val = 1 ∨ d.val = p.val := by decide +kernel
theorem pdiv {p : Nat} (hp : p = 2 ∨ p = 3 ∨ p = 5 ∨ p = 7 ∨ p = 11 ∨ p = 13) : ∀ d, d ∣ p → d = 1 ∨ d = p := fun d hd => by
  have h1 := Nat.le_of_dvd (by omega) hd
  exact pD ⟨p, by omega⟩ hp ⟨d, by omega⟩ hd
/-- Six colors: those of two times those of three. -/
theorem six_law (hn : n ≤ 6) (hw : NWord n X) : solL (smithL (colM n 6 X) n n) 6 n = solL (smithL (colM n 2 X) n n) 2 n * solL (smithL (colM n 3 X) n n) 3 n := by
  have h := solL_mul (smithL (colM n 6 X) n n) (p := 2) (q := 3) (by decide) n
  rw [show (2 * 3 : Nat) = 6 from rfl] at h
  rw [h, solL_mod (m' := colM n 2 X) hn (primeZ_small (p := 2) (.inl rfl)) (pdiv (.inl rfl)) fun i j hi hj => colM_same hw (by decide) (by decide) (by decide) (by decide) hi hj,
    solL_mod (m' := colM n 3 X) hn (primeZ_small (p := 3) (.inr (.inl rfl))) (pdiv (.inr (.inl rfl))) fun i j hi hj => colM_same hw (by decide) (by decide) (by decide) (by decide) hi hj]
/-- All of one color: a multiple of the modulus. -/
theorem mod_law (hn : n ≤ 6) (h0 : 0 < n) (hw : NWord n X) {M : Nat} (hM : 0 < M) : ∃ q, 0 < q ∧ solL (smithL (colM n M X) n n) M n = q * M := by
  refine solL_rowsum hn h0 hM fun i hi => ?_
  obtain ⟨e, he⟩ : ∃ e, (1 : Int) % (M : Int) = e := ⟨_, rfl⟩
  have h1 : sumN (fun j => ent2 (colM n M X) i j) n = sumN (fun j => 1 * (colF M n e X i j - e * Zm X i j) + e * Zm X i j) n := Go.Det.sumN_congr n fun j hj => by
    unfold colM; rw [ent_matI hi hj, he]; omega
  rw [h1, Go.Det.sumN_lin, Zm_rows hw hi]
  have := dvd_sum (p := (M : Int)) n (f := fun j => colF M n e X i j - e * Zm X i j) fun j hj => colF_Zm hw hi hj
  have e2 : ∀ a : Int, 1 * a + e * 0 = a := fun a => by omega
  rw [e2]; exact this
/-- Modulo 2 a letter exchanges. -/
theorem czs_two (x : Int) (hx : x ≠ 0) (f : Nat → Int) (j : Nat) : (2 : Int) ∣ czs x f (swp x j) - f j := by
  obtain ⟨p, hp⟩ : ∃ p, x.natAbs = p + 1 := ⟨x.natAbs - 1, by omega⟩
  unfold czs swp
  rw [hp, Nat.add_sub_cancel]
  by_cases e1 : j = p
  · subst e1
    rw [if_pos rfl]
    split
    · rw [if_neg (by omega), if_pos rfl]; exact ⟨0, by omega⟩
    · rw [if_neg (by omega), if_pos rfl]; exact ⟨f (j + 1) - f j, by omega⟩
  · rw [if_neg (show ¬ j + 1 = p + 1 by omega)]
    by_cases e2 : j = p + 1
    · subst e2
      rw [if_pos rfl, Nat.add_sub_cancel]
      split
      · rw [if_pos rfl]; exact ⟨f p - f (p + 1), by omega⟩
      · rw [if_pos rfl]; exact ⟨0, by omega⟩
    · rw [if_neg e2]
      split <;> first | exact ⟨0, by omega⟩ | (rw [if_neg e1, if_neg e2]; exact ⟨0, by omega⟩)
theorem czw_two : ∀ (X : List Int), (∀ x ∈ X, x ≠ 0) → ∀ (f : Nat → Int) (j : Nat), (2 : Int) ∣ czw X f (permB X j) - f j := by
  intro X
  induction X with
  | nil => intro _ f j; exact ⟨0, by show f j - f j = 2 * 0; omega⟩
  | cons x X ih =>
    intro h f j
    have h1 := ih (fun y hy => h y (by simp [hy])) (czs x f) (swp x j)
    have h2 := czs_two x (h x (by simp)) f j
    have := Int.dvd_add h1 h2
    have e : ∀ a b c : Int, a - b + (b - c) = a - c := fun a b c => by omega
    rw [e] at this
    exact this
theorem two_law (hn : n ≤ 6) (hw : NWord n X) {L : List Nat} (hL : CycOK (backL (strandsL n X)) L) : solL (smithL (colM n 2 X) n n) 2 n = 2 ^ L.length := by
  have hp := (strands_perm (n := n) (by omega) X hw).back
  have hl : (backL (strandsL n X)).length = n := by rw [backL_length, strandsL_length]
  rw [← pmI_two hn hp hl hL]
  refine solL_mod hn (primeZ_small (p := 2) (.inl rfl)) (pdiv (.inl rfl)) fun i k hi hk => ?_
  have h1 := colM_mod (M := 2) (p := 2) hw (by decide) (by decide) hi hk
  unfold pmI
  rw [ent_matI hi hk]
  have hb := back_strands (n := n) (by omega) hw hk
  rw [hb, Int.toNat_natCast]
  -- i is the image of one j
  obtain ⟨j, hj, hji⟩ : ∃ j, j < n ∧ permB X j = i := by
    have hm : (i : Int) ∈ backL (strandsL n X) := hp.perm.mem_iff.2 (mem_iota.2 ⟨by omega, by rw [hl]; omega⟩)
    obtain ⟨j, hj, e⟩ := List.getElem_of_mem hm
    refine ⟨j, by omega, ?_⟩
    have := back_strands (n := n) (by omega) hw (j := j) (by omega)
    rw [nth_lt hj, e] at this
    omega
  have h2 := czw_two X (fun x hx => (hw x hx).1) (uni k) j
  rw [hji] at h2
  have h3 : (if permB X k = i then (1 : Int) else 0) = uni k j := by
    unfold uni
    by_cases q : k = j
    · rw [if_pos q, if_pos (by rw [q]; exact hji)]
    · rw [if_neg q, if_neg]
      intro r
      have a1 := back_strands (n := n) (by omega) hw hk
      have a2 := back_strands (n := n) (by omega) hw hj
      exact q (hp.inj (by omega) (by omega) (by rw [a1, a2, r, hji]))
  rw [h3]
  have h4 : (if i = k then (1 : Int) else 0) = uni i k := rfl
  rw [h4]
  unfold Zm at h1
  have := Int.dvd_add h1 h2
  have e : ∀ a b c d : Int, a - (b - c) + (b - d) = a - (d - c) := fun a b c d => by omega
  rw [e] at this
  exact this
/-- Colors that are all alike stay. -/
theorem prop_const {M : Int} (hM : 0 < M) {b : Int} (h0 : 0 ≤ b) (h1 : b < M) : ∀ X : List Int, NWord n X → prop M (List.replicate n b) X = List.replicate n b := by
  intro X
  induction X with
  | nil => intro _; rfl
  | cons x X ih =>
    intro hw
    have hx := hw x (by simp)
    have e : cstep M (List.replicate n b) x = List.replicate n b := by
      have hr : ∀ i, i < n → nth (List.replicate n b) i = b := fun i hi => by rw [nth_lt (by simpa using hi)]; simp
      have hmod : (2 * b - b + M) % M = b := by
        have : 2 * b - b + M = b + M := by omega
        rw [this, Int.add_emod_right, Int.emod_eq_of_lt h0 h1]
      unfold cstep
      simp only
      rw [hr _ (show x.natAbs - 1 < n by omega), hr _ hx.2, hmod]
      have hs : ∀ i, (List.replicate n b).set i b = List.replicate n b := fun i => by
        refine List.ext_getElem (by simp) fun j h1 h2 => ?_
        rw [List.getElem_set]; split <;> simp
      split <;> rw [hs, hs]
    show prop M (cstep M (List.replicate n b) x) X = _
    rw [e]; exact ih fun y hy => hw y (by simp [hy])

/-! The determinant. -/
end

end Go.Proofs.Ytckopilciekfbaa


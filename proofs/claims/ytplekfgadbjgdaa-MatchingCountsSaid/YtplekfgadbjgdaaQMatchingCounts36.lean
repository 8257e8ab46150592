/- Elements: the places that are free, one after the other. Plain law. -/
import Derived.Test.YtplekfgadbjgdaaQMatchingCounts0
import Derived.Test.YtplekfgadbjgdaaQMatchingCounts1
import Derived.Test.YtplekfgadbjgdaaQMatchingCounts10
import Derived.Test.YtplekfgadbjgdaaQMatchingCounts11
import Derived.Test.YtplekfgadbjgdaaQMatchingCounts12
import Derived.Test.YtplekfgadbjgdaaQMatchingCounts13
import Derived.Test.YtplekfgadbjgdaaQMatchingCounts14
import Derived.Test.YtplekfgadbjgdaaQMatchingCounts15
import Derived.Test.YtplekfgadbjgdaaQMatchingCounts16
import Derived.Test.YtplekfgadbjgdaaQMatchingCounts17
import Derived.Test.YtplekfgadbjgdaaQMatchingCounts18
import Derived.Test.YtplekfgadbjgdaaQMatchingCounts19
import Derived.Test.YtplekfgadbjgdaaQMatchingCounts20
import Derived.Test.YtplekfgadbjgdaaQMatchingCounts21
import Derived.Test.YtplekfgadbjgdaaQMatchingCounts22
import Derived.Test.YtplekfgadbjgdaaQMatchingCounts23
import Derived.Test.YtplekfgadbjgdaaQMatchingCounts24
import Derived.Test.YtplekfgadbjgdaaQMatchingCounts25
import Derived.Test.YtplekfgadbjgdaaQMatchingCounts26
import Derived.Test.YtplekfgadbjgdaaQMatchingCounts27
import Derived.Test.YtplekfgadbjgdaaQMatchingCounts28
import Derived.Test.YtplekfgadbjgdaaQMatchingCounts29
import Derived.Deep.RegionLaw
import Derived.RangeFuncNested
import Derived.RangeFuncBound
import Derived.RangeFuncCalls
import Derived.RangeFuncLeaves
import Derived.RangeFuncBox
import Derived.Shelf.Abstract
import Derived.Shelf.RegionOpen
import Derived.OwnWalkIn
import Derived.TacticsInMore
import Derived.LoopNIn
import Derived.LoopIn
import Derived.Maps.AppendAt
namespace Go.Proofs.Ytplekfgadbjgdaa
open Go.RowKit Go.Sl Go.TL
/-- The first free place at or behind i. -/
def free0 : List Nat → Nat → Option Nat
  | [], _ => none
  | x :: l, i => if Nat.beq x 0 then some i else free0 l (i + 1)
def fillR (n : Nat) : Nat → List Nat → List (List Nat)
  | 0, _ => []
  | f + 1, d => match free0 d 0 with
    | none => if planarL n (d.map Nat.pred) then [d.map Nat.pred] else []
    | some i => (List.range' (i + 1) (d.length - (i + 1))).flatMap fun k => if Nat.beq (d.getD k 0) 0 then fillR n f ((d.set i (k + 1)).set k (i + 1)) else []
def fillA (n : Nat) : List (List Nat) := fillR n (n + 1) (List.replicate (2 * n) 0)
def ltB : List Nat → List Nat → Bool
  | _, [] => false
  | [], _ :: _ => true
  | x :: a, y :: b => bif Nat.ble (x + 1) y then true else bif Nat.beq x y then ltB a b else false
def riseB : List (List Nat) → Bool
  | a :: b :: l => ltB a b && riseB (b :: l)
  | _ => true
def eqB : List Nat → List Nat → Bool
  | [], [] => true
  | x :: a, y :: b => Nat.beq x y && eqB a b
  | _, _ => false
def fillOK (n c : Nat) (S : List (List Nat)) : Bool := (fun l => Nat.beq l.length c && riseB l && l.all (tokB n) && S.all (fun s => l.any (eqB s))) (fillA n)
theorem fill1 : fillOK 1 1 [[1, 0]] = true := by decide +kernel
theorem fill2 : fillOK 2 2 mS2 = true := by decide +kernel
theorem fill3 : fillOK 3 5 mS3 = true := by decide +kernel
theorem fill4 : fillOK 4 14 mS4 = true := by decide +kernel
theorem fill5 : fillOK 5 42 mS5 = true := by decide +kernel
end Go.Proofs.Ytplekfgadbjgdaa

namespace Go.Proofs.Ytplekfgadbjgdaa
open Go.RowKit Go.Sl Go.TL

/-- What the slice holds. -/
def dz (E : List Nat) : List Int := E.map fun e : Nat => (e : Int) - 1
theorem dz_length (E : List Nat) : (dz E).length = E.length := by simp [dz]
theorem nth_dz {E : List Nat} {i : Nat} (h : i < E.length) : nth (dz E) i = (E.getD i 0 : Int) - 1 := by
  rw [nth_lt (by rw [dz_length]; exact h)]
  simp [dz, h]
theorem dz_set (E : List Nat) (i e : Nat) : dz (E.set i e) = (dz E).set i ((e : Int) - 1) := by simp [dz, List.map_set]
theorem free0_some : ∀ {E : List Nat} {s i : Nat}, free0 E s = some i → s ≤ i ∧ i - s < E.length ∧ E.getD (i - s) 0 = 0 ∧ ∀ j, j < i - s → E.getD j 0 ≠ 0
  | [], _, _, h => by cases h
  | x :: E, s, i, h => by
    rw [free0] at h
    by_cases hx : Nat.beq x 0 = true
    · rw [if_pos hx] at h
      obtain rfl := Option.some.inj h
      have := Nat.eq_of_beq_eq_true hx
      simp [this]
    · rw [if_neg hx] at h
      obtain ⟨h1, h2, h3, h4⟩ := free0_some h
      have hx0 : x ≠ 0 := fun e => hx (by rw [e]; rfl)
      obtain ⟨d, rfl⟩ : ∃ d, i = s + 1 + d := ⟨i - (s + 1), by omega⟩
      rw [show s + 1 + d - (s + 1) = d by omega] at h2 h3 h4
      rw [show s + 1 + d - s = d + 1 by omega]
      refine ⟨by omega, by simpa using h2, by simpa using h3, fun j hj => ?_⟩
      cases j with
      | zero => simpa using hx0
      | succ j => simpa using h4 j (by omega)
theorem free0_none : ∀ {E : List Nat} {s : Nat}, free0 E s = none → ∀ x ∈ E, x ≠ 0
  | [], _, _ => by simp
  | x :: E, s, h => by
    rw [free0] at h
    by_cases hx : Nat.beq x 0 = true
    · rw [if_pos hx] at h; cases h
    · rw [if_neg hx] at h
      intro y hy
      rcases List.mem_cons.1 hy with rfl | hy
      · exact fun e => hx (by rw [e]; rfl)
      · exact free0_none h y hy
theorem idx_none {E : List Nat} (h : free0 E 0 = none) : idxOf (dz E) (-1) = -1 := by
  unfold idxOf
  rw [if_neg]
  intro hm
  obtain ⟨x, hx, e⟩ := List.mem_map.1 hm
  have := free0_none h x hx
  omega
theorem idxOf_first : ∀ {xs : List Int} {i : Nat} {x : Int}, i < xs.length → nth xs i = x → (∀ j, j < i → nth xs j ≠ x) → xs.idxOf x = i
  | [], _, _, h, _, _ => by simp at h
  | y :: xs, 0, x, _, h, _ => by
    rw [nth_cons_zero] at h
    rw [h]; simp
  | y :: xs, i + 1, x, h, h1, h2 => by
    have hy : y ≠ x := by have := h2 0 (by omega); rwa [nth_cons_zero] at this
    rw [List.idxOf_cons, idxOf_first (i := i) (x := x) (by simpa using h) (by simpa [nth] using h1) (fun j hj => by simpa [nth] using h2 (j + 1) (by omega))]
    have : (y == x) = false := by rw [beq_eq_false_iff_ne]; exact hy
    simp [this]
theorem idx_some {E : List Nat} {i : Nat} (h : free0 E 0 = some i) : idxOf (dz E) (-1) = (i : Int) := by
  obtain ⟨_, h2, h3, h4⟩ := free0_some h
  rw [Nat.sub_zero] at h2 h3 h4
  have hn : nth (dz E) i = -1 := by rw [nth_dz h2, h3]; rfl
  have hm : (-1 : Int) ∈ dz E := by rw [← hn]; exact nth_mem (by rw [dz_length]; exact h2)
  unfold idxOf
  rw [if_pos hm, idxOf_first (by rw [dz_length]; exact h2) hn fun j hj => by
    rw [nth_dz (by omega)]
    have := h4 j hj
    omega]
theorem iz_pred {E : List Nat} (h : ∀ x ∈ E, x ≠ 0) : iz (E.map Nat.pred) = dz E := by
  unfold iz dz
  rw [List.map_map]
  exact List.map_congr_left fun x hx => by
    have := h x hx
    show ((x - 1 : Nat) : Int) = _
    omega
theorem fillR_none {n f : Nat} {E : List Nat} (h : free0 E 0 = none) : fillR n (f + 1) E = if planarL n (E.map Nat.pred) then [E.map Nat.pred] else [] := by rw [fillR, h]
def fillG (n f i : Nat) (E : List Nat) (k : Nat) : List (List Nat) := if Nat.beq (E.getD k 0) 0 then fillR n f ((E.set i (k + 1)).set k (i + 1)) else []
theorem fillR_next {n f i : Nat} {E : List Nat} (h : free0 E 0 = some i) : fillR n (f + 1) E = (List.range' (i + 1) (E.length - (i + 1))).flatMap (fillG n f i E) := by rw [fillR, h]; rfl
/-- What the rounds up to place k have brought. -/
def fillT (n f i : Nat) (E : List Nat) (k : Nat) : List (List Nat) := (List.range' (i + 1) (k - (i + 1))).flatMap (fillG n f i E)
theorem fillT_start (n f i : Nat) (E : List Nat) : fillT n f i E (i + 1) = [] := by unfold fillT; rw [Nat.sub_self]; rfl
theorem fillT_succ {n f i : Nat} {E : List Nat} {k : Nat} (h : i + 1 ≤ k) : fillT n f i E (k + 1) = fillT n f i E k ++ fillG n f i E k := by
  unfold fillT
  rw [show k + 1 - (i + 1) = (k - (i + 1)) + 1 by omega, List.range'_concat, List.flatMap_append]
  simp only [Nat.one_mul, List.flatMap_cons, List.flatMap_nil, List.append_nil]
  rw [show i + 1 + (k - (i + 1)) = k by omega]
theorem count_next {E : List Nat} {i k a b : Nat} (hi : i < E.length) (h0 : E.getD i 0 = 0) (ha : a ≠ 0) (hb : b ≠ 0) : ((E.set i a).set k b).count 0 < E.count 0 := by
  have h1 : ∀ (F : List Nat) (j c : Nat), c ≠ 0 → (F.set j c).count 0 ≤ F.count 0 := fun F => by
    induction F with
    | nil => intro j c _; simp
    | cons x F ih =>
      intro j c hc
      cases j with
      | zero =>
        rw [List.set_cons_zero, List.count_cons, List.count_cons]
        have : (c == 0) = false := by simpa using hc
        rw [this]; simp
      | succ j => rw [List.set_cons_succ, List.count_cons, List.count_cons]; have := ih j c hc; omega
  have h2 : ∀ (F : List Nat) (j c : Nat), j < F.length → F.getD j 0 = 0 → c ≠ 0 → (F.set j c).count 0 < F.count 0 := fun F => by
    induction F with
    | nil => intro j c h; simp at h
    | cons x F ih =>
      intro j c hj hz hc
      cases j with
      | zero =>
        rw [List.set_cons_zero, List.count_cons, List.count_cons]
        have : (c == 0) = false := by simpa using hc
        have hx : x = 0 := by simpa using hz
        rw [this, hx]; simp
      | succ j => rw [List.set_cons_succ, List.count_cons, List.count_cons]; have := ih j c (by simpa using hj) (by simpa using hz) hc; omega
  exact Nat.lt_of_le_of_lt (h1 _ _ _ hb) (h2 _ _ _ hi h0 ha)
theorem count_two {E : List Nat} {i k a b : Nat} (hi : i < E.length) (h0 : E.getD i 0 = 0) (hk : k < E.length) (hk0 : E.getD k 0 = 0) (hki : k ≠ i) (ha : a ≠ 0) (hb : b ≠ 0) : ((E.set i a).set k b).count 0 + 2 ≤ E.count 0 := by
  have h1 := count_next (k := i) (b := a) hi h0 ha ha
  rw [List.set_set] at h1
  have hk1 : (E.set i a).getD k 0 = 0 := by
    rw [List.getD_eq_getElem?_getD, List.getElem?_set_ne (Ne.symm hki), ← List.getD_eq_getElem?_getD, hk0]
  have h2 := count_next (E := E.set i a) (i := k) (k := k) (a := b) (b := b) (by rw [List.length_set]; exact hk) hk1 hb hb
  rw [List.set_set] at h2
  omega
theorem set_back {E : List Nat} {i k a b : Nat} (hi : E.getD i 0 = 0) (hk : E.getD k 0 = 0) : (((E.set i a).set k b).set i 0).set k 0 = E := by
  refine List.ext_getElem (by simp) fun j h1 h2 => ?_
  simp only [List.getElem_set]
  have hj : E.getD j 0 = E[j] := by simp [h2]
  split
  · rename_i e; subst e; rw [← hj, hk]
  · split
    · rename_i e; subst e; rw [← hj, hi]
    · rfl
theorem set_le {E : List Nat} {i k a b M : Nat} (h : ∀ x ∈ E, x ≤ M) (ha : a ≤ M) (hb : b ≤ M) : ∀ x ∈ (E.set i a).set k b, x ≤ M := by
  intro x hx
  rcases List.mem_or_eq_of_mem_set hx with h1 | rfl
  · rcases List.mem_or_eq_of_mem_set h1 with h2 | rfl
    · exact h x h2
    · exact ha
  · exact hb

end Go.Proofs.Ytplekfgadbjgdaa


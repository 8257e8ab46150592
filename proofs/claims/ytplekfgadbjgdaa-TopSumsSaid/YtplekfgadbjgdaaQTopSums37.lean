/- alexander.Polynomial: the cut matrix and what is done to it. -/
import Derived.Test.YtplekfgadbjgdaaQTopSums0
import Derived.Test.YtplekfgadbjgdaaQTopSums1
import Derived.Test.YtplekfgadbjgdaaQTopSums2
import Derived.Test.YtplekfgadbjgdaaQTopSums3
import Derived.Test.YtplekfgadbjgdaaQTopSums4
import Derived.Test.YtplekfgadbjgdaaQTopSums5
import Derived.Test.YtplekfgadbjgdaaQTopSums6
import Derived.Test.YtplekfgadbjgdaaQTopSums7
import Derived.Test.YtplekfgadbjgdaaQTopSums8
import Derived.Test.YtplekfgadbjgdaaQTopSums9
import Derived.Test.YtplekfgadbjgdaaQTopSums10
import Derived.Test.YtplekfgadbjgdaaQTopSums11
import Derived.Test.YtplekfgadbjgdaaQTopSums12
import Derived.Test.YtplekfgadbjgdaaQTopSums13
import Derived.Test.YtplekfgadbjgdaaQTopSums14
import Derived.Test.YtplekfgadbjgdaaQTopSums15
import Derived.Test.YtplekfgadbjgdaaQTopSums16
import Derived.Test.YtplekfgadbjgdaaQTopSums17
import Derived.Test.YtplekfgadbjgdaaQTopSums18
import Derived.Test.YtplekfgadbjgdaaQTopSums19
import Derived.Test.YtplekfgadbjgdaaQTopSums20
import Derived.Test.YtplekfgadbjgdaaQTopSums21
import Derived.Test.YtplekfgadbjgdaaQTopSums22
import Derived.Test.YtplekfgadbjgdaaQTopSums23
import Derived.Test.YtplekfgadbjgdaaQTopSums24
import Derived.Test.YtplekfgadbjgdaaQTopSums26
import Derived.Test.YtplekfgadbjgdaaQTopSums27
import Derived.Test.YtplekfgadbjgdaaQTopSums28
import Derived.Test.YtplekfgadbjgdaaQTopSums29
import Derived.Test.YtplekfgadbjgdaaQTopSums30
import Derived.Test.YtplekfgadbjgdaaQTopSums31
import Derived.Test.YtplekfgadbjgdaaQTopSums32
import Derived.Test.YtplekfgadbjgdaaQTopSums35
import Derived.RangeFuncNested
import Derived.RangeFuncBound
import Derived.RangeFuncCalls
import Derived.RangeFuncLeaves
import Derived.RangeFuncBox
import Derived.Shelf.Abstract
import Derived.Shelf.RegionOpen
import Derived.OwnWalkIn
import Derived.TacticsInMore
import Derived.LoopNIn
import Derived.LoopIn
import Derived.Maps.AppendAt
import Derived.Deep.RegionLaw
namespace Go.Proofs.Ytplekfgadbjgdaa
open Go.RowKit Go.Sl

def aroundL (n : Nat) : List Nat := List.range n ++ (List.range n).map fun i => 2 * n - 1 - i
end Go.Proofs.Ytplekfgadbjgdaa

namespace Go.Proofs.Ytplekfgadbjgdaa
open Go.RowKit Go.Sl

/-- One step of planar: what is open. -/
def openS (d : List Nat) (O : List Nat) (p : Nat) : List Nat := if 1 ≤ O.length ∧ O.getD (O.length - 1) 0 = d.getD p 0 then O.take (O.length - 1) else O ++ [p]
def opens (n : Nat) (d : List Nat) (k : Nat) : List Nat := ((aroundL n).take k).foldl (openS d) []
def planarL (n : Nat) (d : List Nat) : Bool := (opens n d (2 * n)).length == 0
end Go.Proofs.Ytplekfgadbjgdaa

namespace Go.Proofs.Ytplekfgadbjgdaa
open Go.RowKit Go.Sl

structure TOk (n : Nat) (D : List Nat) : Prop where
  len : D.length = 2 * n
  lt : ∀ i, i < 2 * n → D.getD i 0 < 2 * n
  ne : ∀ i, i < 2 * n → D.getD i 0 ≠ i
  inv : ∀ i, i < 2 * n → D.getD (D.getD i 0) 0 = i
  planar : planarL n D = true
def tokB (n : Nat) (D : List Nat) : Bool := D.length == 2 * n && (List.range (2 * n)).all (fun i => decide (D.getD i 0 < 2 * n) && (D.getD i 0 != i && D.getD (D.getD i 0) 0 == i)) && planarL n D
theorem TOk.of {n : Nat} {D : List Nat} (h : tokB n D = true) : TOk n D := by
  unfold tokB at h
  simp only [Bool.and_eq_true, List.all_eq_true, List.mem_range, decide_eq_true_eq, beq_iff_eq, bne_iff_ne] at h
  exact ⟨h.1.1, fun i hi => (h.1.2 i hi).1, fun i hi => (h.1.2 i hi).2.1, fun i hi => (h.1.2 i hi).2.2, h.2⟩

end Go.Proofs.Ytplekfgadbjgdaa

namespace Go.Proofs.Ytplekfgadbjgdaa
open Go.RowKit Go.Sl

theorem letter_bw {top : Int} (h : 0 < top) (x : Int) : letterOf top x ≠ 0 ∧ -top ≤ letterOf top x ∧ letterOf top x ≤ top := by
  have h1 := Int.emod_nonneg x (b := 2 * top) (by omega)
  have h2 := Int.emod_lt_of_pos x (b := 2 * top) (by omega)
  unfold letterOf
  split <;> omega
theorem wordL_bw {n : Int} (h : 1 < n) (raw : List Int) (most : Nat) : BWord n (wordL (n - 1) raw most) := by
  intro x hx
  obtain ⟨y, _, rfl⟩ := List.mem_map.1 hx
  have := letter_bw (top := n - 1) (by omega) y
  omega

end Go.Proofs.Ytplekfgadbjgdaa

namespace Go.Proofs.Ytplekfgadbjgdaa
open Go.RowKit Go.Sl

/-- An element that polymatrix allows. -/
structure PElem (p : LP) : Prop where
  ok : POk p
  len : p.c.length ≤ 20
  lo1 : -20 ≤ p.low
  lo2 : p.low ≤ 20
  co : ∀ x ∈ p.c, -1000 ≤ x ∧ x ≤ 1000

end Go.Proofs.Ytplekfgadbjgdaa

namespace Go.Proofs.Ytplekfgadbjgdaa
open Go.RowKit Go.Sl

/-- An entry: made of at most four numbers. -/
structure EB (p : LP) : Prop where
  tr : Trimmed p
  wi : Within p (-10) 14
  sum : n1 p.c ≤ 200
  len : p.c.length ≤ 4
theorem EB.zero : EB pzero := ⟨pzero_trimmed, within_pzero _ _, by simp [pzero, n1], by simp [pzero]⟩
theorem EB.elem {p : LP} (h : EB p) : PElem p := by
  have hok : POk p := POk.of h.tr h.wi (by omega) (by omega) (by omega) (by omega) (by have := h.sum; omega)
  refine ⟨hok, ?_, ?_, ?_, fun x hx => by have := n1_mem hx; have := h.sum; omega⟩
  · have := h.len; omega
  · rcases h.wi with e | e
    · rw [h.tr.zero e]; omega
    · omega
  · rcases h.wi with e | e
    · rw [h.tr.zero e]; omega
    · omega
/-- The matrix of a function of two indices. -/
def matM (n : Nat) (P : Nat → Nat → LP) : List (List LP) := (List.range n).map fun i => (List.range n).map fun j => P i j
theorem nthm_matM {n : Nat} {P : Nat → Nat → LP} {i : Nat} (h : i < n) : nthm (matM n P) i = (List.range n).map fun j => P i j := by
  rw [nthm_lt (by simpa [matM] using h)]; simp [matM]
theorem nthp_matM {n : Nat} {P : Nat → Nat → LP} {i j : Nat} (h : i < n) (hj : j < n) : nthp (nthm (matM n P) i) j = P i j := by
  rw [nthm_matM h]; unfold nthp; rw [List.getD_eq_getElem?_getD, List.getElem?_map, List.getElem?_range hj]; rfl
theorem sqM_matM (n : Nat) (P : Nat → Nat → LP) : SqM n (matM n P) := ⟨by simp [matM], fun i hi => by rw [nthm_matM hi]; simp⟩

end Go.Proofs.Ytplekfgadbjgdaa

namespace Go.Proofs.Ytplekfgadbjgdaa

def sumB : Nat → (List Bool → Nat) → Nat
  | 0, h => h []
  | n + 1, h => sumB n (fun T => h (true :: T)) + sumB n (fun T => h (false :: T))
theorem sumB_le {n : Nat} : ∀ {h g : List Bool → Nat}, (∀ T, T.length = n → h T ≤ g T) → sumB n h ≤ sumB n g := by
  induction n with
  | zero => intro h g hh; exact hh [] rfl
  | succ n ih =>
    intro h g hh
    exact Nat.add_le_add (ih fun T hT => hh _ (by simp [hT])) (ih fun T hT => hh _ (by simp [hT]))
theorem sumB_add {n : Nat} : ∀ (h g : List Bool → Nat), sumB n (fun T => h T + g T) = sumB n h + sumB n g := by
  induction n with
  | zero => intro h g; rfl
  | succ n ih => intro h g; simp only [sumB, ih]; omega
theorem sumB_mul {n : Nat} (c : Nat) : ∀ (h : List Bool → Nat), sumB n (fun T => c * h T) = c * sumB n h := by
  induction n with
  | zero => intro h; rfl
  | succ n ih => intro h; simp only [sumB, ih, Nat.mul_add]
theorem le_sumB {n : Nat} : ∀ (h : List Bool → Nat) (T : List Bool), T.length = n → h T ≤ sumB n h := by
  induction n with
  | zero => intro h T hT; rw [List.length_eq_zero_iff.1 hT]; exact Nat.le_refl _
  | succ n ih =>
    intro h T hT
    match T, hT with
    | b :: T, hT =>
      have h1 := ih (fun T => h (b :: T)) T (by simpa using hT)
      cases b
      · exact Nat.le_trans h1 (Nat.le_add_left _ _)
      · exact Nat.le_trans h1 (Nat.le_add_right _ _)
theorem sumB_zero (n : Nat) : sumB n (fun _ => 0) = 0 := by
  induction n with
  | zero => rfl
  | succ n ih => simp only [sumB, ih]
theorem sumB_one {n : Nat} : ∀ (T0 : List Bool), T0.length = n → ∀ (h : List Bool → Nat), (∀ T, T.length = n → T ≠ T0 → h T = 0) → sumB n h = h T0 := by
  induction n with
  | zero => intro T0 hT0 h _; rw [List.length_eq_zero_iff.1 hT0]; rfl
  | succ n ih =>
    intro T0 hT0 h hz
    match T0, hT0 with
    | b :: T0, hT0 =>
      have zero : ∀ g : List Bool → Nat, (∀ T, T.length = n → g T = 0) → sumB n g = 0 := fun g hg => by
        have h1 := sumB_le (n := n) (h := g) (g := fun _ => 0) (fun T hT => by rw [hg T hT]; exact Nat.le_refl _)
        rw [sumB_zero] at h1
        omega
      have h1 := ih T0 (by simpa using hT0) (fun T => h (b :: T)) (fun T hT hne => hz _ (by simp [hT]) (fun e => hne (by injection e)))
      cases b
      · rw [sumB, zero (fun T => h (true :: T)) (fun T hT => hz _ (by simp [hT]) (by simp)), h1, Nat.zero_add]
      · rw [sumB, zero (fun T => h (false :: T)) (fun T hT => hz _ (by simp [hT]) (by simp)), h1, Nat.add_zero]
theorem sq_block {a b a' b' : Nat} (h1 : a' ≤ 2 * a + b) (h2 : b' ≤ a) : a' * a' + b' * b' ≤ 6 * (a * a + b * b) := by
  have e1 := Nat.mul_le_mul h1 h1
  have e2 := Nat.mul_le_mul h2 h2
  have e3 : (2 * a + b) * (2 * a + b) = 4 * (a * a) + 4 * (a * b) + b * b := by grind
  have key : ∀ a d : Nat, 2 * (a * d) ≤ a * a + d * d := fun a d => by
    rcases Nat.le_total a d with h | h
    · obtain ⟨c, rfl⟩ := Nat.le.dest h; grind
    · obtain ⟨c, rfl⟩ := Nat.le.dest h; grind
  have e4 := key a (2 * b)
  have e5 : a * (2 * b) = 2 * (a * b) := by grind
  have e6 : 2 * b * (2 * b) = 4 * (b * b) := by grind
  rw [e5, e6] at e4
  omega
/-- A letter's step: the two columns p and p + 1 (the other way round for an inverse letter). -/
def Blk (p n : Nat) (f g : List Bool → Nat) : Prop :=
  ∀ A B : List Bool, A.length = p → B.length + p + 2 = n →
    g (A ++ false :: false :: B) ≤ f (A ++ false :: false :: B) ∧ g (A ++ true :: true :: B) ≤ f (A ++ true :: true :: B) ∧
    (g (A ++ true :: false :: B) ≤ 2 * f (A ++ true :: false :: B) + f (A ++ false :: true :: B) ∧ g (A ++ false :: true :: B) ≤ f (A ++ true :: false :: B) ∨
     g (A ++ false :: true :: B) ≤ 2 * f (A ++ false :: true :: B) + f (A ++ true :: false :: B) ∧ g (A ++ true :: false :: B) ≤ f (A ++ false :: true :: B))
theorem sumB_blk : ∀ (p n : Nat) (f g : List Bool → Nat), p + 2 ≤ n → Blk p n f g → sumB n (fun T => g T * g T) ≤ 6 * sumB n (fun T => f T * f T) := by
  intro p
  induction p with
  | zero =>
    intro n f g hn h
    obtain ⟨m, rfl⟩ : ∃ m, n = m + 2 := ⟨n - 2, by omega⟩
    have key : sumB m (fun B => (g (true :: true :: B) * g (true :: true :: B) + g (true :: false :: B) * g (true :: false :: B)) + (g (false :: true :: B) * g (false :: true :: B) + g (false :: false :: B) * g (false :: false :: B))) ≤
        sumB m (fun B => 6 * ((f (true :: true :: B) * f (true :: true :: B) + f (true :: false :: B) * f (true :: false :: B)) + (f (false :: true :: B) * f (false :: true :: B) + f (false :: false :: B) * f (false :: false :: B)))) := by
      refine sumB_le fun B hB => ?_
      obtain ⟨h0, h1, h2⟩ := h [] B rfl (by simp [hB])
      simp only [List.nil_append] at h0 h1 h2
      have e0 := Nat.mul_le_mul h0 h0
      have e1 := Nat.mul_le_mul h1 h1
      rcases h2 with ⟨h2, h3⟩ | ⟨h2, h3⟩
      · have := sq_block h2 h3; omega
      · have := sq_block h2 h3; omega
    rw [sumB_mul] at key
    simp only [sumB_add] at key
    simp only [sumB]
    omega
  | succ p ih =>
    intro n f g hn h
    obtain ⟨m, rfl⟩ : ∃ m, n = m + 1 := ⟨n - 1, by omega⟩
    have k1 := ih m (fun T => f (true :: T)) (fun T => g (true :: T)) (by omega) fun A B hA hB => h (true :: A) B (by simp [hA]) (by omega)
    have k2 := ih m (fun T => f (false :: T)) (fun T => g (false :: T)) (by omega) fun A B hA hB => h (false :: A) B (by simp [hA]) (by omega)
    simp only [sumB]
    omega

end Go.Proofs.Ytplekfgadbjgdaa

namespace Go.Proofs.Ytplekfgadbjgdaa
open Go.RowKit Go.Sl

/-- An own slice of ints lies in another block than an own slice of another type. -/
theorem apart_GI {W : World} {B B' s : Nat} {e : TypeId} (hne : e ≠ 3) {u x : Value} {cs : List Value} {xs : List Int} (h : OwnGI W B x xs) (k : Go.Sl.Own W B' e s u cs) : ∀ b, Go.Sl.row x = some b → Go.Sl.row u ≠ some b := by
  intro b hb hb'
  obtain ⟨h0, rfl⟩ := row_eq hb
  obtain ⟨k0, e1⟩ := row_eq hb'
  obtain ⟨_, c1, x1, _⟩ := h.2.2 h0
  obtain ⟨_, _, c2, x2, _⟩ := k.2.2 k0
  rw [e1, x1] at x2
  injection x2 with x2
  injection x2 with _ x3
  exact hne x3.symm

/-- A row of polynomials in a block of the call's own; the coefficients lie in blocks of ints of the call's own. -/
structure TRow (W : World) (B : Nat) (v : Value) (us : List Value) (ps : List LP) : Prop where
  own : Go.Sl.Own W B 40 2 v (pcs us ps)
  len : us.length = ps.length
  each : ∀ j, j < ps.length → OwnGI W B (nthv us j) (nthp ps j).c
section
variable {W W' : World} {B : Nat} {v : Value} {us : List Value} {ps : List LP}
theorem TRow.read (h : TRow W B v us ps) : PRead W v us ps := ⟨h.own.sl, h.len, fun j hj => (h.each j hj).ints⟩
theorem TRow.isSl (h : TRow W B v us ps) : IsSl v := h.own.1
theorem TRow.below (h : TRow W B v us ps) (hb : Below W.heap.size W W') : TRow W' B v us ps := ⟨h.own.below hb, h.len, fun j hj => (h.each j hj).below hb⟩
theorem TRow.low (h : TRow W B v us ps) {B' : Nat} (hB : B' ≤ B) : TRow W B' v us ps := ⟨h.own.low hB, h.len, fun j hj => (h.each j hj).low hB⟩
theorem nthv_snoc (us : List Value) (c : Value) (j : Nat) : nthv (us ++ [c]) j = if j = us.length then c else nthv us j := by
  unfold nthv
  by_cases e : j = us.length
  · subst e; simp
  · rw [if_neg e, List.getD_eq_getElem?_getD, List.getD_eq_getElem?_getD]
    rcases Nat.lt_or_ge j us.length with h | h
    · rw [List.getElem?_append_left h]
    · rw [List.getElem?_append_right h, List.getElem?_eq_none (by simp; omega), List.getElem?_eq_none h]
theorem nthp_snoc (ps : List LP) (q : LP) (j : Nat) : nthp (ps ++ [q]) j = if j = ps.length then q else nthp ps j := by
  unfold nthp
  by_cases e : j = ps.length
  · subst e; simp
  · rw [if_neg e, List.getD_eq_getElem?_getD, List.getD_eq_getElem?_getD]
    rcases Nat.lt_or_ge j ps.length with h | h
    · rw [List.getElem?_append_left h]
    · rw [List.getElem?_append_right h, List.getElem?_eq_none (by simp; omega), List.getElem?_eq_none h]
theorem nthm_snoc (m : List (List LP)) (r : List LP) (j : Nat) : nthm (m ++ [r]) j = if j = m.length then r else nthm m j := by
  unfold nthm
  by_cases e : j = m.length
  · subst e; simp
  · rw [if_neg e, List.getD_eq_getElem?_getD, List.getD_eq_getElem?_getD]
    rcases Nat.lt_or_ge j m.length with h | h
    · rw [List.getElem?_append_left h]
    · rw [List.getElem?_append_right h, List.getElem?_eq_none (by simp; omega), List.getElem?_eq_none h]
/-- A slice of rows grows. -/
theorem TRow.grownR (h : TRow W B v us ps) {B' : Nat} {u : Value} {cs : List Value} (hu : Go.Sl.Own W B' 92 1 u cs) (hg : W.grownBy W' (Go.Sl.row u)) : TRow W' B v us ps :=
  ⟨h.own.grown hg (own_types (Ne.symm rows_ne_poly) h.own hu), h.len, fun j hj => (h.each j hj).grown hg (apart_GI rows_ne_int (h.each j hj) hu)⟩
theorem TRow.push (h : TRow W B v us ps) {c v' : Value} {q : LP} (hc : OwnGI W B c q.c) (ho : Go.Sl.Own W' B 40 2 v' (pcs us ps ++ [.int .i64 q.low, c])) (hg : W.grownBy W' (Go.Sl.row v)) : TRow W' B v' (us ++ [c]) (ps ++ [q]) := by
  refine ⟨by rw [← pcs_append us ps h.len]; exact ho, by simp [h.len], fun j hj => ?_⟩
  rw [nthv_snoc, nthp_snoc, h.len]
  by_cases e : j = ps.length
  · rw [if_pos e, if_pos e]; exact hc.grown hg (apart_GI poly_ne_int hc h.own)
  · rw [if_neg e, if_neg e]
    have hj' : j < ps.length := by simp at hj; omega
    exact (h.each j hj').grown hg (apart_GI poly_ne_int (h.each j hj') h.own)
theorem TRow.setOther (h : TRow W B v us ps) {p : Addr} (hp : p.block < B) (u : Value) : TRow (W.setCell p u) B v us ps :=
  ⟨h.own.setOther (fun k hk e => by have := (h.own.lt k hk).1; omega) u, h.len, fun j hj => (h.each j hj).setOther (fun k hk e => by have := ((h.each j hj).lt k hk).1; omega) u⟩
end

/-- A matrix that grows by rows. -/
structure TMat (W : World) (B : Nat) (v : Value) (vs : List Value) (m : List (List LP)) : Prop where
  own : Go.Sl.Own W B 92 1 v vs
  len : vs.length = m.length
  row : ∀ i, i < m.length → ∃ us, TRow W B (nthv vs i) us (nthm m i)
section
variable {W W' : World} {B : Nat} {v : Value} {vs : List Value} {m : List (List LP)}
theorem TMat.isSl (h : TMat W B v vs m) : IsSl v := h.own.1
theorem TMat.read (h : TMat W B v vs m) : MRead W v vs m := ⟨h.own.sl, h.len, fun i hi => let ⟨us, k⟩ := h.row i hi; ⟨us, k.read⟩⟩
theorem TMat.below (h : TMat W B v vs m) (hb : Below W.heap.size W W') : TMat W' B v vs m := ⟨h.own.below hb, h.len, fun i hi => let ⟨us, k⟩ := h.row i hi; ⟨us, k.below hb⟩⟩
theorem TMat.setOther (h : TMat W B v vs m) {p : Addr} (hp : p.block < B) (u : Value) : TMat (W.setCell p u) B v vs m :=
  ⟨h.own.setOther (fun k hk e => by have := (h.own.lt k hk).1; omega) u, h.len, fun i hi => let ⟨us, k⟩ := h.row i hi; ⟨us, k.setOther hp u⟩⟩
/-- Only one old block changes, one that is not the matrix's. -/
theorem TMat.but (h : TMat W B v vs m) {D : Nat} (hD : D < B) (hg : W.grownBy W' (some D)) : TMat W' B v vs m := by
  refine ⟨h.own.grown hg fun k hk e => by have := (h.own.lt k hk).1; injection e; omega, h.len, fun i hi => ?_⟩
  obtain ⟨us, k⟩ := h.row i hi
  exact ⟨us, k.own.grown hg fun b hb e => by have := (k.own.lt b hb).1; injection e; omega, k.len, fun j hj => (k.each j hj).grown hg fun b hb e => by have := ((k.each j hj).lt b hb).1; injection e; omega⟩
/-- Another slice of rows grows. -/
theorem TMat.grownR (h : TMat W B v vs m) {B' : Nat} {u : Value} {cs : List Value} (hu : Go.Sl.Own W B' 92 1 u cs) (ha : ∀ k, Go.Sl.row v = some k → Go.Sl.row u ≠ some k) (hg : W.grownBy W' (Go.Sl.row u)) : TMat W' B v vs m :=
  ⟨h.own.grown hg ha, h.len, fun i hi => let ⟨us, k⟩ := h.row i hi; ⟨us, k.grownR hu hg⟩⟩
theorem TMat.push (h : TMat W B v vs m) {r v' : Value} {us : List Value} {ps : List LP} (hr : TRow W B r us ps) (ho : Go.Sl.Own W' B 92 1 v' (vs ++ [r])) (hg : W.grownBy W' (Go.Sl.row v)) : TMat W' B v' (vs ++ [r]) (m ++ [ps]) := by
  refine ⟨ho, by simp [h.len], fun i hi => ?_⟩
  rw [nthv_snoc, nthm_snoc, h.len]
  by_cases e : i = m.length
  · rw [if_pos e, if_pos e]; exact ⟨us, hr.grownR h.own hg⟩
  · rw [if_neg e, if_neg e]
    have hi' : i < m.length := by simp at hi; omega
    obtain ⟨us', k⟩ := h.row i hi'
    exact ⟨us', k.grownR h.own hg⟩
end

section
variable {w w1 w2 : World} {D S : Nat}
theorem Keep.below (h : w.grownBy w1 (some D)) (hb : Below w.heap.size w1 w2) : w.grownBy w2 (some D) :=
  ⟨hb.os.trans h.os, hb.tape.trans h.tape, hb.output.trans h.output, Nat.le_trans h.size hb.size, fun k hk hr => (hb.block k hk).trans (h.block k hk hr)⟩
theorem Keep.grown (h : w.grownBy w1 (some D)) {r : Option Nat} (hg : w1.grownBy w2 r) (hr : ∀ k, r = some k → w.heap.size ≤ k) : w.grownBy w2 (some D) :=
  ⟨hg.os.trans h.os, hg.tape.trans h.tape, hg.output.trans h.output, Nat.le_trans h.size hg.size, fun k hk hr2 => (hg.block k (Nat.lt_of_lt_of_le hk h.size) fun e => by have := hr k e.symm; omega).trans (h.block k hk hr2)⟩
theorem Keep.set (h : w.grownBy w1 (some D)) (u : Value) (o : Nat) : w.grownBy (w1.setCell ⟨D, o, none⟩ u) (some D) :=
  ⟨h.os, h.tape, h.output, by simpa using h.size, fun k hk hr => (Below.heap_setCell _ _ _ k (fun e => hr (by rw [e]))).trans (h.block k hk hr)⟩
end

end Go.Proofs.Ytplekfgadbjgdaa

namespace Go.Proofs.Ytplekfgadbjgdaa
open Go.RowKit Go.Sl

theorem Own.cutHead {W : World} {B : Nat} {e : TypeId} {s : Nat} {v : Value} {cs : List Value} (h : Go.Sl.Own W B e s v cs) {k : Nat} (hk : k ≤ vlen v) : Go.Sl.Own W B e s (vcut v 0 k (vcap v) s) (cs.take (k * s)) := by
  have hl := h.2.1
  have hle := h.1.le
  have hks : k * s ≤ vlen v * s := Nat.mul_le_mul_right _ hk
  refine ⟨isSl_cut h.1 (by omega) (by omega) (Nat.le_refl _), by rw [vlen_cut, List.length_take, hl, Nat.min_eq_left hks, Nat.sub_zero], fun h0 => ?_⟩
  rw [vcap_cut] at h0
  obtain ⟨hB, ho, cur, hh, hs, hc⟩ := h.2.2 (by omega)
  have h1 := vat_cut h.1 (l := 0) (h := k) (m := vcap v) (s := s) 0 (by omega) (Nat.le_refl _)
  have eb : vblk (vcut v 0 k (vcap v) s) = vblk v := by have := congrArg Addr.block h1; rwa [vat_block, vat_block] at this
  have eo : voff (vcut v 0 k (vcap v) s) = voff v := by
    have := congrArg Addr.off h1
    simpa [vat] using this
  refine ⟨by rw [eb]; exact hB, by rw [eo]; exact ho, cur, by rw [eb]; exact hh, by rw [vcap_cut]; simpa using hs, ?_⟩
  rw [List.length_take, hl, ← hc, List.take_take, hl]
theorem vblk_cutHead {v : Value} (hv : IsSl v) {k s : Nat} (_hk : k ≤ vcap v) (h0 : 0 < vcap v) : vblk (vcut v 0 k (vcap v) s) = vblk v := by
  have h1 := vat_cut hv (l := 0) (h := k) (m := vcap v) (s := s) 0 (by omega) (Nat.le_refl _)
  have := congrArg Addr.block h1; rwa [vat_block, vat_block] at this

theorem pcs_take2 : ∀ (us : List Value) (ps : List LP), us.length = ps.length → ∀ c, (pcs us ps).take (c * 2) = pcs (us.take c) (ps.take c)
  | [], [], _, c => by simp [pcs]
  | u :: us, p :: ps, h, 0 => by simp [pcs]
  | u :: us, p :: ps, h, c + 1 => by
    have := pcs_take2 us ps (by simpa using h) c
    rw [show (c + 1) * 2 = c * 2 + 1 + 1 by omega]
    simp only [pcs, List.take_succ_cons, this]
section
variable {W W' : World} {B : Nat} {v : Value} {vs : List Value} {m : List (List LP)}
/-- The first rows of a matrix. -/
theorem PMat.headRows (h : PMat W B v vs m) {k : Nat} (hk : k ≤ m.length) : PMat W B (vcut v 0 k (vcap v) 1) (vs.take k) (m.take k) := by
  have hl := h.len
  have hv := h.vlen
  have hn : ∀ i, i < k → nthv (vs.take k) i = nthv vs i ∧ nthm (m.take k) i = nthm m i := fun i hi => by
    refine ⟨?_, ?_⟩
    · unfold nthv; rw [List.getD_eq_getElem?_getD, List.getD_eq_getElem?_getD, List.getElem?_take, if_pos hi]
    · unfold nthm; rw [List.getD_eq_getElem?_getD, List.getD_eq_getElem?_getD, List.getElem?_take, if_pos hi]
  have hml : (m.take k).length = k := by rw [List.length_take]; omega
  refine ⟨by have := Own.cutHead h.own (k := k) (by omega); simpa using this, by rw [hml, List.length_take]; omega, fun i hi => ?_, fun i hi => ?_, fun i j hi hj hij => ?_⟩
  · rw [hml] at hi; rw [(hn i hi).1, (hn i hi).2]; exact h.row i (by omega)
  · rw [hml] at hi; rw [(hn i hi).2]; exact h.pos i (by omega)
  · rw [hml] at hi hj; rw [(hn i hi).1, (hn j hj).1]; exact h.each i j (by omega) (by omega) hij
/-- A row is cut, and stored again. -/
theorem PMat.cutRow (h : PMat W B v vs m) {i k : Nat} (hi : i < m.length) (hk : k ≤ (nthm m i).length) (h0 : 0 < k) :
    PMat (W.setCell (vat v i) (vcut (nthv vs i) 0 k (vcap (nthv vs i)) 2)) B v (vs.set i (vcut (nthv vs i) 0 k (vcap (nthv vs i)) 2)) (m.set i ((nthm m i).take k)) := by
  have hiv : i < vs.length := Nat.lt_of_lt_of_le hi h.len
  obtain ⟨cur, hcur, _⟩ := h.own.getCell hiv
  obtain ⟨r, hr⟩ : ∃ r, nthv vs i = r := ⟨_, rfl⟩
  obtain ⟨us, hrow⟩ := h.row i hi
  rw [hr] at hrow ⊢
  have hvl := hrow.vlen
  have hcap : 0 < vcap r := by have := hrow.isSl.le; have := h.pos i hi; omega
  have eb := vblk_cutHead hrow.isSl (k := k) (s := 2) (by have := hrow.isSl.le; omega) hcap
  have keep : ∀ {x us' ps'}, PRow W B x us' ps' → PRow (W.setCell (vat v i) (vcut r 0 k (vcap r) 2)) B x us' ps' := fun {x us' ps'} hx =>
    hx.setOther (p := vat v i) (Own.ne_of_type (Ne.symm rows_ne_poly) hx.own hcur) rows_ne_int hcur _
  have hcutr : PRow W B (vcut r 0 k (vcap r) 2) (us.take k) ((nthm m i).take k) := by
    refine ⟨?_, by simp [hrow.len], fun j hj => ?_⟩
    · rw [← pcs_take2 us _ hrow.len]; exact Own.cutHead hrow.own (by omega)
    · rw [List.length_take] at hj
      have e1 : nthv (us.take k) j = nthv us j := by unfold nthv; rw [List.getD_eq_getElem?_getD, List.getD_eq_getElem?_getD, List.getElem?_take, if_pos (by omega)]
      have e2 : nthp ((nthm m i).take k) j = nthp (nthm m i) j := by unfold nthp; rw [List.getD_eq_getElem?_getD, List.getD_eq_getElem?_getD, List.getElem?_take, if_pos (by omega)]
      rw [e1, e2]; exact hrow.each j (by omega)
  refine ⟨h.own.set hiv _, by simp [h.len], fun j hj => ?_, fun j hj => ?_, fun a b ha hb hab => ?_⟩
  · rw [List.length_set] at hj
    rw [nthv_set (Nat.lt_of_lt_of_le hj h.len), nthm_set hj]
    by_cases e : j = i
    · rw [if_pos e, if_pos e]; exact ⟨_, keep hcutr⟩
    · rw [if_neg e, if_neg e]
      obtain ⟨us', k'⟩ := h.row j hj
      exact ⟨us', keep k'⟩
  · rw [List.length_set] at hj
    rw [nthm_set hj]
    split
    · rw [List.length_take]; have := h.pos i hi; omega
    · exact h.pos j hj
  · rw [List.length_set] at ha hb
    have key : ∀ j, j < m.length → vblk (nthv (vs.set i (vcut r 0 k (vcap r) 2)) j) = vblk (nthv vs j) := fun j hj => by
      rw [nthv_set (Nat.lt_of_lt_of_le hj h.len)]
      by_cases e : j = i
      · rw [if_pos e, eb, e, hr]
      · rw [if_neg e]
    rw [key a ha, key b hb]; exact h.each a b ha hb hab
end

end Go.Proofs.Ytplekfgadbjgdaa


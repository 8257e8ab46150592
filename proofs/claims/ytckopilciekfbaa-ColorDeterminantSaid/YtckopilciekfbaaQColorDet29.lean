/- braid.Burau walked: the Burau matrix, each element in memory of its own. -/
import Derived.Test.YtckopilciekfbaaQColorDet0
import Derived.Test.YtckopilciekfbaaQColorDet1
import Derived.Test.YtckopilciekfbaaQColorDet2
import Derived.Test.YtckopilciekfbaaQColorDet3
import Derived.Test.YtckopilciekfbaaQColorDet4
import Derived.Test.YtckopilciekfbaaQColorDet5
import Derived.Test.YtckopilciekfbaaQColorDet6
import Derived.Test.YtckopilciekfbaaQColorDet7
import Derived.Test.YtckopilciekfbaaQColorDet8
import Derived.Test.YtckopilciekfbaaQColorDet10
import Derived.Test.YtckopilciekfbaaQColorDet11
import Derived.Test.YtckopilciekfbaaQColorDet12
import Derived.Test.YtckopilciekfbaaQColorDet13
import Derived.Test.YtckopilciekfbaaQColorDet14
import Derived.Test.YtckopilciekfbaaQColorDet15
import Derived.Test.YtckopilciekfbaaQColorDet16
import Derived.Test.YtckopilciekfbaaQColorDet17
import Derived.Test.YtckopilciekfbaaQColorDet20
import Derived.Test.YtckopilciekfbaaQColorDet21
import Derived.Test.YtckopilciekfbaaQColorDet22
import Derived.Test.YtckopilciekfbaaQColorDet25
import Derived.Test.YtckopilciekfbaaQColorDet26
import Derived.Test.YtckopilciekfbaaQColorDet27
import Derived.RangeFuncNested
import Derived.RangeFuncBound
import Derived.RangeFuncCalls
import Derived.RangeFuncLeaves
import Derived.RangeFuncBox
import Derived.Shelf.Abstract
import Derived.Shelf.RegionOpen
import Derived.OwnWalkIn
import Derived.TacticsInMore
import Derived.LoopNIn
import Derived.LoopIn
import Derived.Maps.AppendAt
namespace Go.Proofs.Ytckopilciekfbaa
open Go.RowKit Go.Sl

theorem take_succ_nth (xs : List Int) (k : Nat) (h : k < xs.length) : xs.take (k + 1) = xs.take k ++ [nth xs k] := by
  rw [List.take_succ_eq_append_getElem h, nth_lt h]
end Go.Proofs.Ytckopilciekfbaa

namespace Go.Proofs.Ytckopilciekfbaa
open Go.RowKit Go.Sl

/-- An element that polymatrix allows. -/
structure PElem (p : LP) : Prop where
  ok : POk p
  len : p.c.length ≤ 20
  lo1 : -20 ≤ p.low
  lo2 : p.low ≤ 20
  co : ∀ x ∈ p.c, -1000 ≤ x ∧ x ≤ 1000

end Go.Proofs.Ytckopilciekfbaa

namespace Go.Proofs.Ytckopilciekfbaa
open Go.RowKit Go.Sl

/-- An entry: made of at most four numbers. -/
structure EB (p : LP) : Prop where
  tr : Trimmed p
  wi : Within p (-10) 14
  sum : n1 p.c ≤ 200
  len : p.c.length ≤ 4
theorem EB.zero : EB pzero := ⟨pzero_trimmed, within_pzero _ _, by simp [pzero, n1], by simp [pzero]⟩
theorem EB.elem {p : LP} (h : EB p) : PElem p := by
  have hok : POk p := POk.of h.tr h.wi (by omega) (by omega) (by omega) (by omega) (by have := h.sum; omega)
  refine ⟨hok, ?_, ?_, ?_, fun x hx => by have := n1_mem hx; have := h.sum; omega⟩
  · have := h.len; omega
  · rcases h.wi with e | e
    · rw [h.tr.zero e]; omega
    · omega
  · rcases h.wi with e | e
    · rw [h.tr.zero e]; omega
    · omega
/-- The matrix of a function of two indices. -/
def matM (n : Nat) (P : Nat → Nat → LP) : List (List LP) := (List.range n).map fun i => (List.range n).map fun j => P i j
theorem nthm_matM {n : Nat} {P : Nat → Nat → LP} {i : Nat} (h : i < n) : nthm (matM n P) i = (List.range n).map fun j => P i j := by
  rw [nthm_lt (by simpa [matM] using h)]; simp [matM]
theorem nthp_matM {n : Nat} {P : Nat → Nat → LP} {i j : Nat} (h : i < n) (hj : j < n) : nthp (nthm (matM n P) i) j = P i j := by
  rw [nthm_matM h]; unfold nthp; rw [List.getD_eq_getElem?_getD, List.getElem?_map, List.getElem?_range hj]; rfl
theorem sqM_matM (n : Nat) (P : Nat → Nat → LP) : SqM n (matM n P) := ⟨by simp [matM], fun i hi => by rw [nthm_matM hi]; simp⟩

end Go.Proofs.Ytckopilciekfbaa

namespace Go.Proofs.Ytckopilciekfbaa

def sumB : Nat → (List Bool → Nat) → Nat
  | 0, h => h []
  | n + 1, h => sumB n (fun T => h (true :: T)) + sumB n (fun T => h (false :: T))
theorem sumB_le {n : Nat} : ∀ {h g : List Bool → Nat}, (∀ T, T.length = n → h T ≤ g T) → sumB n h ≤ sumB n g := by
  induction n with
  | zero => intro h g hh; exact hh [] rfl
  | succ n ih =>
    intro h g hh
    exact Nat.add_le_add (ih fun T hT => hh _ (by simp [hT])) (ih fun T hT => hh _ (by simp [hT]))
theorem sumB_add {n : Nat} : ∀ (h g : List Bool → Nat), sumB n (fun T => h T + g T) = sumB n h + sumB n g := by
  induction n with
  | zero => intro h g; rfl
  | succ n ih => intro h g; simp only [sumB, ih]; omega
theorem sumB_mul {n : Nat} (c : Nat) : ∀ (h : List Bool → Nat), sumB n (fun T => c * h T) = c * sumB n h := by
  induction n with
  | zero => intro h; rfl
  | succ n ih => intro h; simp only [sumB, ih, Nat.mul_add]
theorem le_sumB {n : Nat} : ∀ (h : List Bool → Nat) (T : List Bool), T.length = n → h T ≤ sumB n h := by
  induction n with
  | zero => intro h T hT; rw [List.length_eq_zero_iff.1 hT]; exact Nat.le_refl _
  | succ n ih =>
    intro h T hT
    match T, hT with
    | b :: T, hT =>
      have h1 := ih (fun T => h (b :: T)) T (by simpa using hT)
      cases b
      · exact Nat.le_trans h1 (Nat.le_add_left _ _)
      · exact Nat.le_trans h1 (Nat.le_add_right _ _)
theorem sumB_zero (n : Nat) : sumB n (fun _ => 0) = 0 := by
  induction n with
  | zero => rfl
  | succ n ih => simp only [sumB, ih]
theorem sumB_one {n : Nat} : ∀ (T0 : List Bool), T0.length = n → ∀ (h : List Bool → Nat), (∀ T, T.length = n → T ≠ T0 → h T = 0) → sumB n h = h T0 := by
  induction n with
  | zero => intro T0 hT0 h _; rw [List.length_eq_zero_iff.1 hT0]; rfl
  | succ n ih =>
    intro T0 hT0 h hz
    match T0, hT0 with
    | b :: T0, hT0 =>
      have zero : ∀ g : List Bool → Nat, (∀ T, T.length = n → g T = 0) → sumB n g = 0 := fun g hg => by
        have h1 := sumB_le (n := n) (h := g) (g := fun _ => 0) (fun T hT => by rw [hg T hT]; exact Nat.le_refl _)
        rw [sumB_zero] at h1
        omega
      have h1 := ih T0 (by simpa using hT0) (fun T => h (b :: T)) (fun T hT hne => hz _ (by simp [hT]) (fun e => hne (by injection e)))
      cases b
      · rw [sumB, zero (fun T => h (true :: T)) (fun T hT => hz _ (by simp [hT]) (by simp)), h1, Nat.zero_add]
      · rw [sumB, zero (fun T => h (false :: T)) (fun T hT => hz _ (by simp [hT]) (by simp)), h1, Nat.add_zero]
theorem sq_block {a b a' b' : Nat} (h1 : a' ≤ 2 * a + b) (h2 : b' ≤ a) : a' * a' + b' * b' ≤ 6 * (a * a + b * b) := by
  have e1 := Nat.mul_le_mul h1 h1
  have e2 := Nat.mul_le_mul h2 h2
  have e3 : (2 * a + b) * (2 * a + b) = 4 * (a * a) + 4 * (a * b) + b * b := by grind
  have key : ∀ a d : Nat, 2 * (a * d) ≤ a * a + d * d := fun a d => by
    rcases Nat.le_total a d with h | h
    · obtain ⟨c, rfl⟩ := Nat.le.dest h; grind
    · obtain ⟨c, rfl⟩ := Nat.le.dest h; grind
  have e4 := key a (2 * b)
  have e5 : a * (2 * b) = 2 * (a * b) := by grind
  have e6 : 2 * b * (2 * b) = 4 * (b * b) := by grind
  rw [e5, e6] at e4
  omega
/-- A letter's step: the two columns p and p + 1 (the other way round for an inverse letter). -/
def Blk (p n : Nat) (f g : List Bool → Nat) : Prop :=
  ∀ A B : List Bool, A.length = p → B.length + p + 2 = n →
    g (A ++ false :: false :: B) ≤ f (A ++ false :: false :: B) ∧ g (A ++ true :: true :: B) ≤ f (A ++ true :: true :: B) ∧
    (g (A ++ true :: false :: B) ≤ 2 * f (A ++ true :: false :: B) + f (A ++ false :: true :: B) ∧ g (A ++ false :: true :: B) ≤ f (A ++ true :: false :: B) ∨
     g (A ++ false :: true :: B) ≤ 2 * f (A ++ false :: true :: B) + f (A ++ true :: false :: B) ∧ g (A ++ true :: false :: B) ≤ f (A ++ false :: true :: B))
theorem sumB_blk : ∀ (p n : Nat) (f g : List Bool → Nat), p + 2 ≤ n → Blk p n f g → sumB n (fun T => g T * g T) ≤ 6 * sumB n (fun T => f T * f T) := by
  intro p
  induction p with
  | zero =>
    intro n f g hn h
    obtain ⟨m, rfl⟩ : ∃ m, n = m + 2 := ⟨n - 2, by omega⟩
    have key : sumB m (fun B => (g (true :: true :: B) * g (true :: true :: B) + g (true :: false :: B) * g (true :: false :: B)) + (g (false :: true :: B) * g (false :: true :: B) + g (false :: false :: B) * g (false :: false :: B))) ≤
        sumB m (fun B => 6 * ((f (true :: true :: B) * f (true :: true :: B) + f (true :: false :: B) * f (true :: false :: B)) + (f (false :: true :: B) * f (false :: true :: B) + f (false :: false :: B) * f (false :: false :: B)))) := by
      refine sumB_le fun B hB => ?_
      obtain ⟨h0, h1, h2⟩ := h [] B rfl (by simp [hB])
      simp only [List.nil_append] at h0 h1 h2
      have e0 := Nat.mul_le_mul h0 h0
      have e1 := Nat.mul_le_mul h1 h1
      rcases h2 with ⟨h2, h3⟩ | ⟨h2, h3⟩
      · have := sq_block h2 h3; omega
      · have := sq_block h2 h3; omega
    rw [sumB_mul] at key
    simp only [sumB_add] at key
    simp only [sumB]
    omega
  | succ p ih =>
    intro n f g hn h
    obtain ⟨m, rfl⟩ : ∃ m, n = m + 1 := ⟨n - 1, by omega⟩
    have k1 := ih m (fun T => f (true :: T)) (fun T => g (true :: T)) (by omega) fun A B hA hB => h (true :: A) B (by simp [hA]) (by omega)
    have k2 := ih m (fun T => f (false :: T)) (fun T => g (false :: T)) (by omega) fun A B hA hB => h (false :: A) B (by simp [hA]) (by omega)
    simp only [sumB]
    omega

end Go.Proofs.Ytckopilciekfbaa

namespace Go.Proofs.Ytckopilciekfbaa
open Go.RowKit Go.Sl

theorem BWord.nword {n : Nat} {xs : List Int} (h : BWord (n : Int) xs) : NWord n xs := fun x hx => by have := h x hx; omega

end Go.Proofs.Ytckopilciekfbaa


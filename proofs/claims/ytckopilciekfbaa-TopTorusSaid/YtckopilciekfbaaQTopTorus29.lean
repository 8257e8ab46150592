/- braid.Permutation walked; freegroup.Product, whatever the length of the result. -/
import Derived.Test.YtckopilciekfbaaQTopTorus0
import Derived.Test.YtckopilciekfbaaQTopTorus1
import Derived.Test.YtckopilciekfbaaQTopTorus2
import Derived.Test.YtckopilciekfbaaQTopTorus3
import Derived.Test.YtckopilciekfbaaQTopTorus4
import Derived.Test.YtckopilciekfbaaQTopTorus5
import Derived.Test.YtckopilciekfbaaQTopTorus6
import Derived.Test.YtckopilciekfbaaQTopTorus9
import Derived.Test.YtckopilciekfbaaQTopTorus13
import Derived.Test.YtckopilciekfbaaQTopTorus14
import Derived.Test.YtckopilciekfbaaQTopTorus15
import Derived.Test.YtckopilciekfbaaQTopTorus22
import Derived.Test.YtckopilciekfbaaQTopTorus25
import Derived.Test.YtckopilciekfbaaQTopTorus27
import Derived.RangeFuncNested
import Derived.RangeFuncCalls
import Derived.OrdersIn
import Derived.OrdersHeld
import Derived.Deep.RegionHeld
import Derived.RangeFuncBound
import Derived.RangeFuncLeaves
import Derived.RangeFuncBox
import Derived.Shelf.Abstract
import Derived.Shelf.RegionOpen
import Derived.OwnWalkIn
import Derived.TacticsInMore
import Derived.LoopNIn
import Derived.LoopIn
import Derived.Maps.AppendAt
namespace Go.Proofs.Ytckopilciekfbaa
open Go.RowKit Go.Sl

/-- One crossing, on the list of strands. -/
def swS (S : List Int) (c : Int) : List Int := (S.set (c.natAbs - 1) (nth S c.natAbs)).set c.natAbs (nth S (c.natAbs - 1))
def strandsL (n : Nat) (xs : List Int) : List Int := xs.foldl swS (iota n)
theorem swS_length (S : List Int) (c : Int) : (swS S c).length = S.length := by simp [swS]
theorem strandsL_length (n : Nat) (xs : List Int) : (strandsL n xs).length = n := by
  have : ∀ (xs : List Int) (S : List Int), (xs.foldl swS S).length = S.length := by
    intro xs
    induction xs with
    | nil => exact fun _ => rfl
    | cons x t ih => exact fun S => by rw [List.foldl_cons, ih, swS_length]
  rw [strandsL, this, iota_length]
theorem swap_perm {α : Type} : ∀ (X : List α) (i : Nat) (hi : i + 1 < X.length), ((X.set i X[i + 1]).set (i + 1) X[i]).Perm X := by
  intro X
  induction X with
  | nil => intro i hi; simp at hi
  | cons x t ih =>
    intro i hi
    cases i with
    | zero =>
      cases t with
      | nil => simp at hi
      | cons y r => simpa using List.Perm.swap x y r
    | succ i =>
      simp only [List.length_cons] at hi
      simpa using ih i (by omega)
theorem swS_perm {S : List Int} {c : Int} (h0 : c ≠ 0) (hc : c.natAbs < S.length) : (swS S c).Perm S := by
  obtain ⟨i, hi⟩ : ∃ i : Nat, c.natAbs = i + 1 := ⟨c.natAbs - 1, by omega⟩
  unfold swS
  rw [hi, Nat.add_sub_cancel, nth_lt (by omega), nth_lt (by omega)]
  exact swap_perm S i (by omega)
theorem strandsL_snoc (n : Nat) (xs : List Int) (c : Int) : strandsL n (xs ++ [c]) = swS (strandsL n xs) c := by unfold strandsL; rw [List.foldl_append]; rfl
theorem strands_perm {n : Nat} (hn : n ≤ 1000) (xs : List Int) : (∀ x ∈ xs, x ≠ 0 ∧ x.natAbs < n) → IsPerm (strandsL n xs) := by
  have : ∀ (xs : List Int) (S : List Int), (∀ x ∈ xs, x ≠ 0 ∧ x.natAbs < S.length) → (xs.foldl swS S).Perm S := by
    intro xs
    induction xs with
    | nil => exact fun _ _ => List.Perm.refl _
    | cons x t ih =>
      intro S h
      have hx := h x List.mem_cons_self
      exact (ih (swS S x) (fun y hy => by rw [swS_length]; exact h y (List.mem_cons_of_mem _ hy))).trans (swS_perm hx.1 hx.2)
  intro h
  refine ⟨?_, by rw [strandsL_length]; exact hn⟩
  rw [strandsL_length]
  exact this xs (iota n) (by rw [iota_length]; exact h)
set_option maxRecDepth 100000 in
set_option maxHeartbeats 2000000 in
theorem bperm_calls (n : Nat) (v : Value) (xs : List Int) (w : World) (hv : Ints w v xs) (h1 : 2 ≤ n) (h2 : n ≤ 6) (hx : BWord n xs) (hl : xs.length ≤ 30) :
    Calls Try.prog 101 #[.int .i64 n, v] w fun e w' => ∃ u, e = .returned (.tuple #[u, .int .i64 0]) ∧ OwnI w' w.heap.size u (backL (strandsL n xs)) ∧ Below w.heap.size w w' := by
  have sv := hv.isSl
  have lv := hv.len
  have hxa : ∀ x ∈ xs, x ≠ 0 ∧ x.natAbs < n := fun x h => by have := hx x h; omega
  have HP := Lib.hid (strands_perm (n := n) (by omega) xs hxa)
  have HV := Lib.hid hv; have HX := Lib.hid hx; have HXA := Lib.hid hxa; have HL := Lib.hid hl
  clear hv hx hxa
  obtain ⟨len, hlen⟩ : ∃ len, xs.length = len := ⟨_, rfl⟩
  rw [hlen] at lv hl
  have HN := Lib.hid hlen; clear hlen
  go_enter Try.func101, Try.ntmps101
  go_wp2_with fail
  refine (bcheck_calls n v xs _ HV.out (by omega) (by omega) HX.out HL.out).mono ?_
  rintro e w1 ⟨rfl, hb1⟩
  have HB1 := Lib.hid hb1; have HB1s := hb1.size; clear hb1
  go_wp2_with fail
  refine (identity_calls n _ (by omega)).mono ?_
  rintro e w2 ⟨u, rfl, hu, hb2⟩
  have su := hu.isSl
  have lu := hu.ints.len
  rw [iota_length] at lu
  have HU := Lib.hid hu; have HB2 := Lib.hid (Below.chain HB1.out hb2); have HB12 := Lib.hid hb2
  clear hu hb2
  go_wp2_with fail
  go_loopw [21] (fun i wr => ∃ k : Nat, k ≤ len ∧ i = .int .i64 k ∧ OwnI wr w1.heap.size u (strandsL n (xs.take k)) ∧ Below w1.heap.size w1 wr) (fun i _ => len - (intOf i).toNat)
  case atStart => exact ⟨0, Nat.zero_le _, rfl, HU.out, HB12.out⟩
  case round =>
    obtain ⟨k, hk, rfl, ho, hbr⟩ := hrel
    by_cases hlt : k < len
    · have hkx : k < xs.length := by rw [HN.out]; exact hlt
      have cx := (HV.out.below (Below.chain HB1.out hbr)).cell hkx
      obtain ⟨c, hc⟩ : ∃ c, nth xs k = c := ⟨_, rfl⟩
      rw [hc] at cx
      have hcb := HXA.out _ (nth_mem hkx)
      rw [hc] at hcb
      obtain ⟨hc0, hcn⟩ := hcb
      obtain ⟨i, hi⟩ : ∃ i : Nat, c.natAbs = i + 1 := ⟨c.natAbs - 1, by omega⟩
      have hstep : strandsL n (xs.take (k + 1)) = ((strandsL n (xs.take k)).set i (nth (strandsL n (xs.take k)) (i + 1))).set (i + 1) (nth (strandsL n (xs.take k)) i) := by
        rw [List.take_succ_eq_append_getElem hkx, strandsL_snoc, show xs[k] = c by rw [← hc, nth_lt hkx]]
        unfold swS
        rw [hi, Nat.add_sub_cancel]
      have hSl := strandsL_length n (xs.take k)
      obtain ⟨S, hS⟩ : ∃ S, S = strandsL n (xs.take k) := ⟨_, rfl⟩
      rw [← hS] at ho hstep hSl
      have hiS : i < S.length := by omega
      have hjS : i + 1 < S.length := by omega
      obtain ⟨x, hx⟩ : ∃ x, nth S i = x := ⟨_, rfl⟩
      obtain ⟨y, hy⟩ : ∃ y, nth S (i + 1) = y := ⟨_, rfl⟩
      rw [hx, hy] at hstep
      have o1 := ho
      have c1 := o1.cell hiS; have c2 := o1.cell hjS
      rw [hx] at c1
      rw [hy] at c2
      have f1 := o1.frozen hiS
      have o2 := o1.set hiS y
      have f2 := o2.frozen (k := i + 1) (by rw [List.length_set]; exact hjS)
      have e2 := o2.cell (k := i + 1) (by rw [List.length_set]; exact hjS)
      have o3 := o2.set (k := i + 1) (by rw [List.length_set]; exact hjS) x
      have b3 : Below w1.heap.size w1 ((_ : World).setCell (vat u i) (.int .i64 y) |>.setCell (vat u (i + 1)) (.int .i64 x)) := (hbr.setCell (by exact o1.ge hiS) _).setCell (by exact o1.ge hjS) _
      have hin : i + 1 < n := by omega
      have hia : ((i : Int) + 1 : Int) - 1 = (i : Int) := by omega
      have hjn : ((i : Int) + 1).toNat = i + 1 := by omega
      have HST := Lib.hid hstep; have HO3 := Lib.hid o3; have HB3 := Lib.hid b3; have HC := Lib.hid hc; have HSS := Lib.hid hS; have HI := Lib.hid hi
      clear hstep o1 o2 o3 b3 hx hy hc hS ho hbr hi
      go_wp2_with fail
      refine (bindex_calls c _ (by omega) (by omega)).mono ?_
      rintro e w' ⟨rfl, rfl⟩
      rw [HI.out]
      simp only [Int.natCast_add, Int.cast_ofNat_Int]
      go_wp2_with fail
      go_region
      go_wp2_with fail
      go_roundw
      case rel => exact ⟨k + 1, by omega, by go_num, by rw [HST.out]; exact HO3.out.below (Below.refl _ _).drew, HB3.out.drew⟩
      case measure => simp [intOf]; omega
    · have hk' : k = xs.length := by rw [HN.out]; omega
      rw [hk', List.take_length] at ho
      have HO := Lib.hid ho.ints; have HBR := Lib.hid hbr; clear ho hbr hk'
      go_wp2_with fail
      refine (back_calls u (strandsL n xs) _ HO.out HP.out).mono ?_
      rintro e w3 ⟨p, rfl, hp, hb3⟩
      have sp := hp.isSl
      have HPP := Lib.hid hp; have HB3 := Lib.hid hb3; clear hp hb3
      go_wp2_with fail
      go_ret2
      exact ⟨_, rfl, HPP.out.low (by have := HBR.out.size; omega), Below.chain (Below.chain HB1.out HBR.out) HB3.out⟩

end Go.Proofs.Ytckopilciekfbaa


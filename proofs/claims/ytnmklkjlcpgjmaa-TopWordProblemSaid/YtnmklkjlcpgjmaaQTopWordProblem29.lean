/- slices.Reverse of a slice of ints that is the call's own, walked. -/
import Derived.Test.YtnmklkjlcpgjmaaQTopWordProblem0
import Derived.Test.YtnmklkjlcpgjmaaQTopWordProblem1
import Derived.Test.YtnmklkjlcpgjmaaQTopWordProblem5
import Derived.Test.YtnmklkjlcpgjmaaQTopWordProblem11

namespace Go.Proofs.Ytnmklkjlcpgjmaa
open Go.RowKit Go.Sl

/-- The first k and the last k elements have been exchanged. -/
def Turning (xs : List Int) (k : Nat) (zs : List Int) : Prop := zs.length = xs.length ∧ ∀ p, p < xs.length → nth zs p = if p < k ∨ xs.length - k ≤ p then nth xs (xs.length - 1 - p) else nth xs p
theorem turning_start (xs : List Int) : Turning xs 0 xs := ⟨rfl, fun p hp => by rw [if_neg (by omega)]⟩
theorem Turning.step {xs zs : List Int} {k j : Nat} (h : Turning xs k zs) (hj : j + k + 1 = xs.length) (hk : k < j) : Turning xs (k + 1) ((zs.set k (nth zs j)).set j (nth zs k)) := by
  obtain ⟨hl, hz⟩ := h
  refine ⟨by simp [hl], fun p hp => ?_⟩
  have e1 : nth zs j = nth xs j := by rw [hz j (by omega), if_neg (by omega)]
  have e2 : nth zs k = nth xs k := by rw [hz k (by omega), if_neg (by omega)]
  by_cases h1 : p = j
  · subst h1
    rw [nth_set_same _ (by simp; omega), e2, if_pos (by omega)]
    congr 1; omega
  · rw [nth_set_other _ (by omega)]
    by_cases h2 : p = k
    · subst h2
      rw [nth_set_same _ (by omega), e1, if_pos (by omega)]
      congr 1; omega
    · rw [nth_set_other _ (by omega), hz p hp]
      by_cases h3 : p < k ∨ xs.length - k ≤ p
      · rw [if_pos h3, if_pos (by omega)]
      · rw [if_neg h3, if_neg (by omega)]
theorem nth_rev (xs : List Int) (p : Nat) (h : p < xs.length) : nth xs.reverse p = nth xs (xs.length - 1 - p) := by
  rw [nth_lt (by simpa using h), nth_lt (by omega), List.getElem_reverse]
theorem Turning.done {xs zs : List Int} {k : Nat} (h : Turning xs k zs) (hk : xs.length ≤ 2 * k + 1) : zs = xs.reverse := by
  obtain ⟨hl, hz⟩ := h
  refine ext_nth (by simp [hl]) fun p hp => ?_
  rw [hl] at hp
  rw [hz p hp, nth_rev xs p hp]
  split
  · rfl
  · congr 1; omega

set_option maxHeartbeats 1000000 in
set_option maxRecDepth 100000 in
theorem reverse_calls (v : Value) (xs : List Int) (B : Nat) (w : World) (hv : OwnI w B v xs) (hl : xs.length ≤ 1000000) :
    Calls Try.prog 48 #[v] w fun e w' => (∃ u, e = .returned u) ∧ OwnI w' B v xs.reverse ∧ Below B w w' := by
  have sv := hv.isSl
  have lv := hv.len
  obtain ⟨n, hn⟩ : ∃ n, xs.length = n := ⟨_, rfl⟩
  rw [hn] at lv hl
  have HV := Lib.hid hv; have HN := Lib.hid hn
  clear hv hn
  go_enter Try.func48, Try.ntmps48
  go_wp2_with fail
  go_loopw [2, 3] (fun i j wr => ∃ (k : Nat) (zs : List Int), k ≤ n ∧ i = .int .i64 k ∧ j = .int .i64 ((n : Int) - 1 - k) ∧ Turning xs k zs ∧ OwnI wr B v zs ∧ Below B w wr) (fun i _ _ => n - (intOf i).toNat)
  case atStart => exact ⟨0, xs, Nat.zero_le _, rfl, by simp, turning_start xs, HV.out, Below.refl _ _⟩
  case round =>
    obtain ⟨k, zs, hk, rfl, rfl, ht, ho, hbr⟩ := hrel
    have HT := Lib.hid ht; have HO := Lib.hid ho; have HBR := Lib.hid hbr
    clear ht ho hbr
    by_cases hlt : (k : Int) < (n : Int) - 1 - k
    · obtain ⟨j, hj⟩ : ∃ j : Nat, (n : Int) - 1 - k = (j : Int) := ⟨((n : Int) - 1 - k).toNat, by omega⟩
      have hzl : zs.length = n := by rw [HT.out.1, HN.out]
      have hkz : k < zs.length := by omega
      have hjz : j < zs.length := by omega
      have hkn : k < n := by omega
      have hjn : j < n := by omega
      have hst := HT.out.step (j := j) (by rw [HN.out]; omega) (by omega)
      obtain ⟨x, hx⟩ : ∃ x, nth zs k = x := ⟨_, rfl⟩
      obtain ⟨y, hy⟩ : ∃ y, nth zs j = y := ⟨_, rfl⟩
      rw [hx, hy] at hst
      have o1 := HO.out
      have c1 := o1.cell hkz; have c2 := o1.cell hjz
      rw [hx] at c1
      rw [hy] at c2
      have f1 := o1.frozen hkz
      have o2 := o1.set hkz y
      have f2 := o2.frozen (k := j) (by rw [List.length_set]; exact hjz)
      have e2 := o2.cell (k := j) (by rw [List.length_set]; exact hjz)
      have o3 := o2.set (k := j) (by rw [List.length_set]; exact hjz) x
      have b3 : Below B w ((_ : World).setCell (vat v k) (.int .i64 y) |>.setCell (vat v j) (.int .i64 x)) := (HBR.out.setCell (by exact o1.ge hkz) _).setCell (by exact o1.ge hjz) _
      have HST := Lib.hid hst; have HO3 := Lib.hid o3; have HB3 := Lib.hid b3; have HJ := Lib.hid hj
      have hlt2 : (k : Int) < (j : Int) := by omega
      rw [hj]
      clear hst o1 o2 o3 b3 hx hy hj hlt
      go_wp2_with fail
      go_region
      go_wp2_with fail
      go_roundw
      case rel => exact ⟨k + 1, _, by omega, by go_num, by have := HJ.out; go_num, HST.out, HO3.out.below (Below.refl _ _).drew, HB3.out.drew⟩
      case measure => simp [intOf]; omega
    · have hfin := HT.out.done (by rw [HN.out]; omega)
      subst hfin
      go_wp2_with fail
      exact bodyPost_end (v := .tuple #[]) (by simp [results, Try.results48, go_sem]) rfl ⟨⟨_, rfl⟩, HO.out, HBR.out⟩

end Go.Proofs.Ytnmklkjlcpgjmaa


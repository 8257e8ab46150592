/- temperleylieb: Check, Closure, Product, walked. -/
import Derived.Test.YtplekfgadbjgdaaQMatchingCounts0
import Derived.Test.YtplekfgadbjgdaaQMatchingCounts1
import Derived.Test.YtplekfgadbjgdaaQMatchingCounts10
import Derived.Test.YtplekfgadbjgdaaQMatchingCounts11
import Derived.Test.YtplekfgadbjgdaaQMatchingCounts12
import Derived.Test.YtplekfgadbjgdaaQMatchingCounts13
import Derived.Test.YtplekfgadbjgdaaQMatchingCounts14
import Derived.Test.YtplekfgadbjgdaaQMatchingCounts15
import Derived.Test.YtplekfgadbjgdaaQMatchingCounts16
import Derived.Test.YtplekfgadbjgdaaQMatchingCounts17
import Derived.Test.YtplekfgadbjgdaaQMatchingCounts18
import Derived.Test.YtplekfgadbjgdaaQMatchingCounts19
import Derived.Test.YtplekfgadbjgdaaQMatchingCounts20
import Derived.Test.YtplekfgadbjgdaaQMatchingCounts21
import Derived.Test.YtplekfgadbjgdaaQMatchingCounts22
import Derived.Test.YtplekfgadbjgdaaQMatchingCounts23
import Derived.Test.YtplekfgadbjgdaaQMatchingCounts24
import Derived.Test.YtplekfgadbjgdaaQMatchingCounts25
import Derived.Test.YtplekfgadbjgdaaQMatchingCounts26
import Derived.Test.YtplekfgadbjgdaaQMatchingCounts27
import Derived.Test.YtplekfgadbjgdaaQMatchingCounts28
import Derived.Deep.RegionLaw
import Derived.RangeFuncNested
import Derived.RangeFuncBound
import Derived.RangeFuncCalls
import Derived.RangeFuncLeaves
import Derived.RangeFuncBox
import Derived.Shelf.Abstract
import Derived.Shelf.RegionOpen
import Derived.OwnWalkIn
import Derived.TacticsInMore
import Derived.LoopNIn
import Derived.LoopIn
import Derived.Maps.AppendAt
namespace Go.Proofs.Ytplekfgadbjgdaa
open Go.RowKit Go.Sl

structure TOk (n : Nat) (D : List Nat) : Prop where
  len : D.length = 2 * n
  lt : ∀ i, i < 2 * n → D.getD i 0 < 2 * n
  ne : ∀ i, i < 2 * n → D.getD i 0 ≠ i
  inv : ∀ i, i < 2 * n → D.getD (D.getD i 0) 0 = i
  planar : planarL n D = true
def tokB (n : Nat) (D : List Nat) : Bool := D.length == 2 * n && (List.range (2 * n)).all (fun i => decide (D.getD i 0 < 2 * n) && (D.getD i 0 != i && D.getD (D.getD i 0) 0 == i)) && planarL n D
theorem TOk.of {n : Nat} {D : List Nat} (h : tokB n D = true) : TOk n D := by
  unfold tokB at h
  simp only [Bool.and_eq_true, List.all_eq_true, List.mem_range, decide_eq_true_eq, beq_iff_eq, bne_iff_ne] at h
  exact ⟨h.1.1, fun i hi => (h.1.2 i hi).1, fun i hi => (h.1.2 i hi).2.1, fun i hi => (h.1.2 i hi).2.2, h.2⟩

set_option maxRecDepth 100000 in
set_option maxHeartbeats 4000000 in
theorem tcheck_calls (n : Nat) (D : List Nat) (dv : Value) (w : World) (hd : Ints w dv (iz D)) (hok : TOk n D) (h1 : 1 ≤ n) (h6 : n ≤ 6) :
    Calls Try.prog 16 #[.int .i64 n, dv] w fun e w' => e = .returned (.int .i64 0) ∧ Below w.heap.size w w' := by
  have sd := hd.isSl
  have ld := hd.len
  rw [iz_length, hok.len] at ld
  have hpl : ∀ V, Below w.heap.size w V → _ := fun V hV => planar_calls n D dv V (hd.below hV) hok.len hok.lt h1 h6
  obtain ⟨N2, hN2⟩ : ∃ N2, 2 * n = N2 := ⟨_, rfl⟩
  have hN2i : (2 : Int) * (n : Int) = (N2 : Int) := by omega
  rw [hN2] at ld
  have hN2b : N2 ≤ 12 := by omega
  have HN2 := Lib.hid hN2; have HD := Lib.hid hd; have HOK := Lib.hid hok; have HPL := Lib.hid hpl
  clear hN2 hd hok hpl
  go_enter Try.func16, Try.ntmps16
  go_wp2_with fail
  refine (tstrands_calls n w h1 h6).mono ?_
  rintro e w' ⟨rfl, rfl⟩
  go_wp2_with fail
  go_loopw [20] (fun i wr => ∃ k : Nat, k ≤ N2 ∧ i = .int .i64 k ∧ Below w.heap.size w wr) (fun i _ => N2 - (intOf i).toNat)
  case atStart => exact ⟨0, Nat.zero_le _, rfl, Below.refl _ _⟩
  case round =>
    rename World => V
    obtain ⟨k, hk, rfl, hbr⟩ := hrel
    have hda := HD.out.below hbr
    have HBR := Lib.hid hbr
    clear hbr
    by_cases hlt : k < N2
    · have hlt2 : k < 2 * n := by rw [HN2.out]; exact hlt
      have cd := hda.cell (k := k) (by rw [iz_length, HOK.out.len]; exact hlt2)
      rw [getD_iz (by rw [HOK.out.len]; exact hlt2)] at cd
      have q1 := HOK.out.lt k hlt2
      have q2 := HOK.out.ne k hlt2
      have q3 := HOK.out.inv k hlt2
      obtain ⟨p, hp⟩ : ∃ p, D.getD k 0 = p := ⟨_, rfl⟩
      rw [hp] at cd q1 q2 q3
      have cp := hda.cell (k := p) (by rw [iz_length, HOK.out.len]; exact q1)
      rw [getD_iz (by rw [HOK.out.len]; exact q1), q3] at cp
      rw [HN2.out] at q1
      have hne : ((p : Int) == (k : Int)) = false := by simp; omega
      have hp0 : ¬ ((p : Int) < 0) := by omega
      have hpN : ¬ (N2 ≤ p) := by omega
      clear q2 q3 hp hda
      go_wp2_with fail
      go_roundw
      case rel => exact ⟨k + 1, by omega, by go_num, HBR.out⟩
      case measure => simp [intOf]; omega
    · obtain rfl : k = N2 := by omega
      have HP := Lib.hid HOK.out.planar
      clear HOK hda
      go_wp2_with fail
      refine (HPL.out V HBR.out).mono ?_
      rintro e w' ⟨rfl, hb⟩
      rw [HP.out]
      have HB := Lib.hid (HBR.out.trans (hb.mono HBR.out.size))
      clear hb
      go_wp2_with fail
      go_ret
      exact ⟨rfl, HB.out⟩

end Go.Proofs.Ytplekfgadbjgdaa


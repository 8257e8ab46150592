/- permgroup.Order walked: the number of elements of the group. -/
import Derived.Test.YtplekfgadbjgdaaQGroupOrbitStabilizer0
import Derived.Test.YtplekfgadbjgdaaQGroupOrbitStabilizer1
import Derived.Test.YtplekfgadbjgdaaQGroupOrbitStabilizer2
import Derived.Test.YtplekfgadbjgdaaQGroupOrbitStabilizer3
import Derived.Test.YtplekfgadbjgdaaQGroupOrbitStabilizer4
import Derived.Test.YtplekfgadbjgdaaQGroupOrbitStabilizer5
import Derived.Test.YtplekfgadbjgdaaQGroupOrbitStabilizer8
import Derived.Test.YtplekfgadbjgdaaQGroupOrbitStabilizer11
import Derived.Test.YtplekfgadbjgdaaQGroupOrbitStabilizer12
import Derived.Test.YtplekfgadbjgdaaQGroupOrbitStabilizer13
import Derived.Test.YtplekfgadbjgdaaQGroupOrbitStabilizer14
import Derived.Test.YtplekfgadbjgdaaQGroupOrbitStabilizer15
import Derived.Test.YtplekfgadbjgdaaQGroupOrbitStabilizer16
import Derived.Test.YtplekfgadbjgdaaQGroupOrbitStabilizer17
import Derived.Test.YtplekfgadbjgdaaQGroupOrbitStabilizer18
import Derived.Test.YtplekfgadbjgdaaQGroupOrbitStabilizer19

namespace Go.Proofs.Ytplekfgadbjgdaa
open Go.RowKit Go.Sl Go.Mp Go.Maps

def prodTo (C : Nat → Lv) : Nat → Nat
  | 0 => 1
  | k + 1 => prodTo C k * (C k).od.length
theorem prodTo_size (C : Nat → Lv) : ∀ f k, prodTo C k * sizeT C f k = prodTo C (k + f)
  | 0, k => by rw [sizeT, Nat.mul_one, Nat.add_zero]
  | f + 1, k => by
    rw [sizeT, ← Nat.mul_assoc]
    have := prodTo_size C f (k + 1)
    rw [prodTo] at this
    rw [this, show k + (f + 1) = k + 1 + f by omega]
theorem prodTo_all (C : Nat → Lv) (n : Nat) : prodTo C n = sizeT C n 0 := by
  have := prodTo_size C n 0
  rw [prodTo, Nat.one_mul, Nat.zero_add] at this
  exact this.symm
theorem prodTo_le {n : Nat} {C : Nat → Lv} (h : Half n 0 0 C) : ∀ k, k ≤ n → prodTo C k ≤ n ^ k
  | 0, _ => by rw [prodTo, Nat.pow_zero]; exact Nat.le_refl _
  | k + 1, hk => by
    rw [prodTo, Nat.pow_succ]
    exact Nat.mul_le_mul (prodTo_le h k (by omega)) (h.lv k (Nat.zero_le _) (by omega)).od_le
theorem pow9_le {n k : Nat} (hn : n ≤ 9) (hk : k ≤ n) : n ^ k ≤ 387420489 := by
  rcases Nat.eq_zero_or_pos n with rfl | h0
  · obtain rfl : k = 0 := by omega
    decide
  · calc n ^ k ≤ n ^ n := Nat.pow_le_pow_right h0 hk
      _ ≤ 9 ^ n := Nat.pow_le_pow_left hn n
      _ ≤ 9 ^ 9 := Nat.pow_le_pow_right (by decide) hn
      _ = 387420489 := rfl

set_option maxHeartbeats 4000000 in
set_option maxRecDepth 100000 in
theorem size_calls (n B : Nat) (lab : Nat → Nat) (cv : Value) (bx : Nat → Nat) (C : Nat → Lv) (w : World) (hM : ChM lab w B n cv bx C) (hC : Half n 0 0 C) (hn : n ≤ 9) :
    Calls Try.prog 82 #[cv] w fun e w' => e = .returned (.int .i64 (sizeT C n 0 : Nat)) ∧ w = w' := by
  have scv := hM.cs.1
  have lcv := sl_len hM.cs
  have HM := Lib.hid hM; have HC := Lib.hid hC
  clear hM hC
  go_enter Try.func82, Try.ntmps82
  go_wp2_with fail
  go_loopw [3, 8] (fun p s wr => ∃ k : Nat, p = .int .i64 (prodTo C k : Nat) ∧ s = .int .i64 k ∧ k ≤ n ∧ wr = w) (fun _ s _ => n - (intOf s).toNat)
  case atStart => exact ⟨0, rfl, rfl, Nat.zero_le _, rfl⟩
  case round =>
    obtain ⟨k, rfl, rfl, hk, rfl⟩ := hrel
    by_cases hlt : k < n
    · obtain ⟨mb, gv, ov, gvs, m, hL⟩ := HM.out.lv k hlt
      have cp := sl_ptr HM.out.cs hlt
      have c2 := hL.box.cell2
      have sov := hL.oo.isSl
      have lov := hL.oo.len
      rw [List.length_map] at lov
      have hle := prodTo_le HC.out (k + 1) hlt
      have h9 := pow9_le hn hlt
      have hpr : prodTo C (k + 1) = prodTo C k * (C k).od.length := rfl
      obtain ⟨P, hP⟩ : ∃ P, prodTo C k = P := ⟨_, rfl⟩
      obtain ⟨L, hL2⟩ : ∃ L, (C k).od.length = L := ⟨_, rfl⟩
      obtain ⟨R, hR⟩ : ∃ R, prodTo C (k + 1) = R := ⟨_, rfl⟩
      rw [hP, hL2, hR] at hpr
      rw [hR] at hle
      rw [hL2] at lov
      have hRb := Nat.le_trans hle h9
      have hw : IntKind.i64.wrap ((P : Int) * (L : Int)) = (R : Int) := by
        have : (P : Int) * (L : Int) = (R : Int) := by rw [hpr]; simp
        rw [this]
        exact IntWalk.i64_in _ ⟨by omega, by omega⟩
      have HRR := Lib.hid hR
      rw [hP]
      clear hL hle h9 hpr hP hL2 hR
      go_wp2_with fail
      go_roundw
      case rel => exact ⟨k + 1, by rw [HRR.out], by go_num, hlt, trivial⟩
      case measure => (simp [intOf]; try omega)
    · obtain rfl : k = n := by omega
      rw [prodTo_all]
      go_wp2_with fail
      go_ret
      exact ⟨rfl, rfl⟩

set_option maxHeartbeats 4000000 in
set_option maxRecDepth 100000 in
theorem gcheck_calls (n : Nat) (gv : Value) (vs : List Value) (S : List (List Int)) (w : World) (hr : RowsV w gv vs S) (hS : ∀ g ∈ S, Pm n g) (hn : n ≤ 9) (hl : S.length ≤ 6) :
    Calls Try.prog 80 #[.int .i64 n, gv] w fun e w' => e = .returned (.int .i64 0) ∧ Below w.heap.size w w' := by
  have sgv := hr.isSl
  have lgv := hr.len
  obtain ⟨G, hG⟩ : ∃ G, S.length = G := ⟨_, rfl⟩
  rw [hG] at lgv hl
  have HR := Lib.hid hr; have HS := Lib.hid hS; have HG := Lib.hid hG
  clear hr hS hG
  go_enter Try.func80, Try.ntmps80
  go_wp2_with fail
  go_loopw [19] (fun s wr => ∃ q : Nat, s = .int .i64 q ∧ q ≤ G ∧ Below w.heap.size w wr) (fun s _ => G - (intOf s).toNat)
  case atStart => exact ⟨0, rfl, Nat.zero_le _, Below.refl _ _⟩
  case round =>
    obtain ⟨q, rfl, hq, hb⟩ := hrel
    by_cases hqG : q < G
    · have hqS : q < S.length := by rw [HG.out]; exact hqG
      have cr := (HR.out.below hb).cell (i := q) hqS
      have rr := (HR.out.below hb).row (i := q) hqS
      rw [nthr_lt hqS] at rr
      obtain ⟨r, hr⟩ : ∃ r, nthv vs q = r := ⟨_, rfl⟩
      rw [hr] at cr rr
      have sr := rr.isSl
      have hSq := HS.out _ (List.getElem_mem hqS)
      have lr := rr.len
      rw [hSq.2] at lr
      have RR := Lib.hid rr; have HSQ := Lib.hid hSq; have HB := Lib.hid hb
      clear rr hr hSq hb
      go_wp2_with fail
      refine (check_calls r _ _ RR.out HSQ.out.1 (by rw [HSQ.out.2]; exact hn)).mono ?_
      rintro e w' ⟨rfl, rfl⟩
      go_wp2_with fail
      go_roundw
      case rel => exact ⟨q + 1, by go_num, by omega, HB.out⟩
      case measure => (simp [intOf]; try omega)
    · have HB := Lib.hid hb
      clear hb
      go_wp2_with fail
      go_ret
      exact ⟨rfl, HB.out⟩

set_option maxHeartbeats 4000000 in
set_option maxRecDepth 100000 in
theorem gorder_calls (n : Nat) (gv : Value) (vs : List Value) (S : List (List Int)) (w : World) (hr : RowsV w gv vs S) (hS : ∀ g ∈ S, Pm n g) (hn : n ≤ 9) (hl : S.length ≤ 6) :
    Calls Try.prog 32 #[.int .i64 n, gv] w fun e w' => ∃ k : Nat, e = .returned (.tuple #[.int .i64 k, .int .i64 0]) ∧ HasCard (Gen n S) k ∧ k ≤ 387420489 ∧ Below w.heap.size w w' := by
  have sgv := hr.isSl
  have HR := Lib.hid hr; have HS := Lib.hid hS
  clear hr hS
  go_enter Try.func32, Try.ntmps32
  go_wp2_with fail
  refine (gcheck_calls n gv vs S _ HR.out HS.out hn hl).mono ?_
  rintro e w1 ⟨rfl, hb⟩
  have HB := Lib.hid hb
  clear hb
  go_wp2_with fail
  refine (newChain_calls n gv vs S _ (HR.out.below HB.out) HS.out hn (by omega)).mono ?_
  rintro e w2 ⟨cv, bx, lab, C, rfl, hM, hch, hb⟩
  have scv := hM.cs.1
  have HM := Lib.hid hM; have HCH := Lib.hid hch
  replace HB := Lib.hid (Below.chain HB.out hb)
  clear hM hch hb
  go_wp2_with fail
  refine (size_calls n _ lab cv bx C _ HM.out HCH.out.half hn).mono ?_
  rintro e w' ⟨rfl, rfl⟩
  go_wp2_with fail
  go_ret2
  exact ⟨_, rfl, HCH.out.card hn, by rw [← prodTo_all]; exact Nat.le_trans (prodTo_le HCH.out.half n (Nat.le_refl _)) (pow9_le hn (Nat.le_refl _)), HB.out⟩

end Go.Proofs.Ytplekfgadbjgdaa


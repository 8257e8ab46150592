/- intmatrix.Smith and Solutions, walked; the numbers of solutions modulo two numbers without common divisors are multiplied. -/
import Derived.Test.YtplekfgadbjgdaaQTopSums0
import Derived.Test.YtplekfgadbjgdaaQTopSums1
import Derived.Test.YtplekfgadbjgdaaQTopSums3
import Derived.Test.YtplekfgadbjgdaaQTopSums8
import Derived.Test.YtplekfgadbjgdaaQTopSums10
import Derived.Test.YtplekfgadbjgdaaQTopSums17
import Derived.Test.YtplekfgadbjgdaaQTopSums19
import Derived.Test.YtplekfgadbjgdaaQTopSums21
import Derived.Deep.RegionLaw
namespace Go.Proofs.Ytplekfgadbjgdaa
open Go.RowKit Go.Sl

def solTo (l : List Int) (M : Nat) : Nat → Nat
  | 0 => 1
  | t + 1 => solTo l M t * Nat.gcd (nth l t).natAbs M
def solL (l : List Int) (M C : Nat) : Nat := solTo l M l.length * M ^ (C - l.length)
theorem solTo_le (l : List Int) (M : Nat) (hM : 0 < M) (t : Nat) : solTo l M t ≤ M ^ t := by
  induction t with
  | zero => simp [solTo]
  | succ t ih =>
    rw [solTo, Nat.pow_succ]
    exact Nat.mul_le_mul ih (Nat.gcd_le_right _ hM)
theorem smithL_length (m : List (List Int)) (R C : Nat) : (smithL m R C).length = min R C := by simp [smithL, facL]
theorem smithL_le {m : List (List Int)} {R C : Nat} (h : IsMat m R C) (k : Nat) : (nth (smithL m R C) k).natAbs ≤ 46656000000000000 := by
  unfold smithL facL
  by_cases hk : k < min R C
  · rw [nth_fac _ _ _ hk]
    unfold facAt
    have hR := h.hn
    have hC := h.hc
    have h1 := dTo_le (m := m) (C := C) (n := min R C) h.abs h.hc (by omega) (2 ^ R) 0 (k + 1) (by omega)
    split
    · simp
    · rw [dTo_end (by omega)] at h1
      rw [dTo_end (by omega), dTo_end (by omega)]
      rw [Int.natAbs_natCast] at h1
      have h2 := Nat.div_le_self (rowsG m C (k + 1) (2 ^ R)) (rowsG m C k (2 ^ R))
      have h3 : ((rowsG m C (k + 1) (2 ^ R) : Nat) : Int) / ((rowsG m C k (2 ^ R) : Nat) : Int) = ((rowsG m C (k + 1) (2 ^ R) / rowsG m C k (2 ^ R) : Nat) : Int) := by simp
      rw [h3, Int.natAbs_natCast]
      omega
  · unfold nth; rw [List.getD_eq_getElem?_getD, List.getElem?_eq_none (by simp; omega)]; simp

set_option maxRecDepth 100000 in
theorem solutions_calls (v : Value) (xss : List (List Int)) (R C M : Nat) (w : World) (hv : Rows2 w v xss) (hm : IsMat xss R C) (hR : 0 < R) (hC : 0 < C) (hM : 0 < M) (hM13 : M ≤ 13) :
    Calls Try.prog 113 #[v, .int .i64 M] w fun e w' => e = .returned (.tuple #[.int .i64 (solL (smithL xss R C) M C), .int .i64 0]) ∧ Below w.heap.size w w' := by
  have hck := mcheck_calls v xss R C w hv hm
  have HCK := Lib.hid hck; clear hck
  have hsm := smith_calls v xss R C w hv hm hR hC
  have HSM := Lib.hid hsm; clear hsm
  have hcol : ∀ W, Below w.heap.size w W → Calls Try.prog 150 #[v] W fun e w' => e = .returned (.int .i64 C) ∧ W = w' := fun W hb => columns_calls v xss R C W (hv.below hb) hm hR
  have HCOL := Lib.hid hcol; clear hcol
  have hle := smithL_le hm
  have HLE := Lib.hid hle; clear hle
  have hC6 := hm.hc
  have hR6 := hm.hn
  have hll := smithL_length xss R C
  obtain ⟨l, hl⟩ : ∃ l, l = smithL xss R C := ⟨_, rfl⟩
  rw [← hl] at hll
  have hlC : l.length ≤ C := by omega
  have HL := Lib.hid hl
  clear hl hll hv hm
  go_enter Try.func113, Try.ntmps113
  go_wp2_with (first
    | (go_at_call 147; refine HCK.out.mono ?_; rintro e w' ⟨rfl, rfl⟩)
    | (go_at_call 148; refine HSM.out.mono ?_; rintro e w1 ⟨u, rfl, hu, hb⟩; rw [← HL.out] at hu; have su := hu.isSl; have lu := hu.len))
  have HU := Lib.hid hu; clear hu
  have HB := Lib.hid hb; clear hb
  go_loopw [8, 26] (fun o i wr => ∃ t : Nat, t ≤ l.length ∧ i = .int .i64 t ∧ o = .int .i64 (solTo l M t) ∧ ∃ q, wr = w1.drewN q) (fun _ i _ => l.length - (intOf i).toNat)
  case atStart => exact ⟨0, Nat.zero_le _, rfl, rfl, 0, rfl⟩
  case round =>
    obtain ⟨t, ht, rfl, rfl, q, hwr⟩ := hrel
    have HWR := Lib.hid hwr; clear hwr
    have hsb := solTo_le l M hM t
    have hs2 : M ^ t ≤ 13 ^ 6 := Nat.le_trans (Nat.pow_le_pow_left hM13 t) (Nat.pow_le_pow_right (by omega) (by omega))
    by_cases htl : t < l.length
    · have c1 := (HU.out.below (Below.drawn q)).cell (k := t) htl
      rw [← HWR.out] at c1
      have hfa : (nth l t).natAbs ≤ 46656000000000000 := by have := HLE.out t; rw [← HL.out] at this; exact this
      have hg : Nat.gcd (nth l t).natAbs M ≤ 13 := Nat.le_trans (Nat.gcd_le_right _ hM) hM13
      have hpr : solTo l M t * Nat.gcd (nth l t).natAbs M ≤ 13 ^ 6 * 13 := Nat.mul_le_mul (by omega) hg
      have hm1 : ((solTo l M t : Nat) : Int) * ((Nat.gcd (nth l t).natAbs M : Nat) : Int) = ((solTo l M (t + 1) : Nat) : Int) := by rw [solTo, Int.natCast_mul]
      have hm2 : ((solTo l M t : Nat) : Int) * ((Nat.gcd (nth l t).natAbs M : Nat) : Int) ≤ 100000000 := by rw [← Int.natCast_mul]; omega
      have hm3 : 0 ≤ ((solTo l M t : Nat) : Int) * ((Nat.gcd (nth l t).natAbs M : Nat) : Int) := by rw [← Int.natCast_mul]; omega
      have HM1 := Lib.hid hm1; clear hm1 hpr hg
      go_wp2_with (go_at_call 149; refine (gcd_calls _ _ _ (by omega) (by omega)).mono ?_; rintro e w' ⟨rfl, n2, rfl⟩)
      go_roundw
      case rel => exact ⟨t + 1, by omega, by go_num, by rw [← HM1.out], _, by rw [HWR.out, World.drewN_drewN]⟩
      case measure => simp [intOf]; omega
    · obtain rfl : t = l.length := by omega
      clear hsb hs2
      have hbw : Below w.heap.size w wr := by rw [HWR.out]; exact belowN HB.out q
      have HBW := Lib.hid hbw; clear hbw
      go_wp2_with (go_at_call 150; refine (HCOL.out _ HBW.out).mono ?_; rintro e w' ⟨rfl, rfl⟩)
      go_loop [8, 41] (fun o i => ∃ t : Nat, t ≤ C - l.length ∧ i = .int .i64 t ∧ o = .int .i64 ((solTo l M l.length * M ^ t : Nat))) (fun _ i => C - l.length - (intOf i).toNat)
      case atStart => exact ⟨0, Nat.zero_le _, rfl, by simp⟩
      case round =>
        obtain ⟨t, ht, rfl, rfl⟩ := hrel
        have hsb := solTo_le l M hM l.length
        have hs2 : M ^ l.length ≤ 13 ^ 6 := Nat.le_trans (Nat.pow_le_pow_left hM13 _) (Nat.pow_le_pow_right (by omega) (by omega))
        have hs3 : M ^ t ≤ 13 ^ 6 := Nat.le_trans (Nat.pow_le_pow_left hM13 _) (Nat.pow_le_pow_right (by omega) (by omega))
        have hs4 : solTo l M l.length * M ^ t ≤ 13 ^ 6 * 13 ^ 6 := Nat.mul_le_mul (by omega) hs3
        by_cases htl : t < C - l.length
        · have hs5 : solTo l M l.length * M ^ t * M ≤ 13 ^ 6 * 13 ^ 6 * 13 := Nat.mul_le_mul hs4 hM13
          obtain ⟨X, hX⟩ : ∃ X, X = solTo l M l.length * M ^ t := ⟨_, rfl⟩
          rw [← hX] at hs5 ⊢
          have hm1 : (X : Int) * (M : Int) = ((solTo l M l.length * M ^ (t + 1) : Nat) : Int) := by rw [Nat.pow_succ, ← Nat.mul_assoc, ← hX, Int.natCast_mul]
          have hm2 : (X : Int) * (M : Int) ≤ 1000000000000000 := by rw [← Int.natCast_mul]; omega
          have hm3 : 0 ≤ (X : Int) * (M : Int) := by rw [← Int.natCast_mul]; omega
          have HM1 := Lib.hid hm1; have HX := Lib.hid hX; clear hm1 hX hs5 hs4 hs3 hs2 hsb
          go_wp2_with fail
          go_round
          case rel => exact ⟨t + 1, by omega, by go_num, by rw [← HM1.out]⟩
          case measure => simp [intOf]; omega
        · obtain rfl : t = C - l.length := by omega
          clear hs2 hs3 hs4 hsb
          go_wp2_with fail
          go_ret2
          exact ⟨by rw [← HL.out]; rfl, HBW.out⟩

end Go.Proofs.Ytplekfgadbjgdaa


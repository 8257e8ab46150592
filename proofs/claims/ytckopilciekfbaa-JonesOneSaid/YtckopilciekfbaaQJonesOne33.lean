/- laurent.At, Eval, Conjugate, Normal, Normalize walked. -/
import Derived.Test.YtckopilciekfbaaQJonesOne0
import Derived.Test.YtckopilciekfbaaQJonesOne1
import Derived.Test.YtckopilciekfbaaQJonesOne5
import Derived.Test.YtckopilciekfbaaQJonesOne6
import Derived.Test.YtckopilciekfbaaQJonesOne7
import Derived.Test.YtckopilciekfbaaQJonesOne8
import Derived.Test.YtckopilciekfbaaQJonesOne9
import Derived.Test.YtckopilciekfbaaQJonesOne10
import Derived.Test.YtckopilciekfbaaQJonesOne13
import Derived.Test.YtckopilciekfbaaQJonesOne14
import Derived.Test.YtckopilciekfbaaQJonesOne15
import Derived.Test.YtckopilciekfbaaQJonesOne16
import Derived.Test.YtckopilciekfbaaQJonesOne17
import Derived.Test.YtckopilciekfbaaQJonesOne22
import Derived.Test.YtckopilciekfbaaQJonesOne24
import Derived.Deep.RegionWith
namespace Go.Proofs.Ytckopilciekfbaa
open Go.RowKit Go.Sl

set_option maxRecDepth 100000 in
theorem at_calls (p : LP) (s : Value) (x : Int) (w : World) (hs : Ints w s p.c) (hp : POk p) (hx : x = 1 ∨ x = -1) :
    Calls Try.prog 59 #[.agg #[.int .i64 p.low, s], .int .i64 x] w fun e w' => e = .returned (.int .i64 (atR x p.low p.c)) ∧ Below w.heap.size w w' := by
  have ss := hs.isSl
  have ls := hs.len
  obtain ⟨n, hn⟩ : ∃ n, p.c.length = n := ⟨_, rfl⟩
  have hn2 : n ≤ 200 := by rw [← hn]; exact hp.len
  rw [hn] at ls
  have hlo1 := hp.lo1; have hlo2 := hp.lo2
  have HCO := Lib.hid (show ∀ k, (nth p.c k).natAbs ≤ 1000000000 from fun k => Nat.le_trans (n1_nth _ _) hp.co.1)
  have HAT := Lib.hid (show ∀ k, (atR x p.low (p.c.take k)).natAbs ≤ 1000000000 from fun k => Nat.le_trans (atR_take_le _ _ _ _) hp.co.1)
  obtain ⟨W1, hW1⟩ : ∃ W1, W1 = w.alloc (.cells #[.int .i64 p.low, s] 35) := ⟨_, rfl⟩
  have p1 : Pair W1 w.heap.size 35 (.int .i64 p.low) s := by rw [hW1]; exact pair_new _ _ _ _
  have b1 : Below w.heap.size w W1 := by rw [hW1]; exact (Below.refl _ _).alloc (Nat.le_refl _) _
  have HS1 := Lib.hid (hs.below b1)
  have c0 := p1.cell0; have c1 := p1.cell1
  have HW1 := Lib.hid hW1.symm; have HB1 := Lib.hid b1; have HN := Lib.hid hn
  clear hs hp hW1 p1 b1 hn
  go_enter Try.func59, Try.ntmps59
  go_wp2_with fail
  rw [HW1.out]
  go_loop [5, 11] (fun o i => ∃ (k : Nat) (m : Int), k ≤ n ∧ i = .int .i64 k ∧ o = .int .i64 m ∧ m = atR x p.low (p.c.take k)) (fun _ i => n - (intOf i).toNat)
  case atStart => exact ⟨0, 0, Nat.zero_le _, rfl, rfl, rfl⟩
  case round =>
    obtain ⟨k, m, hk, rfl, rfl, hm⟩ := hrel
    have hmb := HAT.out k
    rw [← hm] at hmb
    by_cases hlt : k < n
    · have d1 := HS1.out.cell (k := k) (by rw [HN.out]; exact hlt)
      have hcb := HCO.out k
      have hnx := atR_take_succ x p.low p.c k (by rw [HN.out]; exact hlt)
      rw [← hm] at hnx
      obtain ⟨c, hc⟩ : ∃ c, nth p.c k = c := ⟨_, rfl⟩
      rw [hc] at d1 hcb hnx
      have HNX := Lib.hid hnx
      clear hnx hm hc
      rcases hx with rfl | rfl
      · go_wp2_with fail
        go_round
        case rel => exact ⟨k + 1, m + c, by omega, by go_num, by go_num, by rw [HNX.out, if_neg (by omega)]⟩
        case measure => simp [intOf]; omega
      · by_cases he : (p.low + k) % 2 = 0
        · have ht : (p.low + (k : Int)).tmod 2 = 0 := by
            have h1 := emod_of_tmod (p.low + k) 2 (by omega)
            have h2 := tmod_bounds (p.low + k) 2 (by omega)
            rw [he] at h1
            split at h1 <;> omega
          have h0 : ((p.low + (k : Int)).tmod 2 != 0) = false := by rw [ht]; rfl
          have HE := Lib.hid he
          clear he ht
          go_wp2_with fail
          go_round
          case rel => exact ⟨k + 1, m + c, by omega, by go_num, by go_num, by rw [HNX.out, if_neg (fun h => h.2 HE.out)]⟩
          case measure => simp [intOf]; omega
        · have ht : (p.low + (k : Int)).tmod 2 ≠ 0 := fun h => by
            have h1 := emod_of_tmod (p.low + k) 2 (by omega)
            rw [h] at h1
            simp at h1
            omega
          have h0 : ((p.low + (k : Int)).tmod 2 != 0) = true := by simp [ht]
          have HE := Lib.hid he
          clear he ht
          go_wp2_with fail
          go_round
          case rel => exact ⟨k + 1, m + -c, by omega, by go_num, by go_num, by rw [HNX.out, if_pos ⟨by omega, HE.out⟩]⟩
          case measure => simp [intOf]; omega
    · have hf : m = atR x p.low p.c := by rw [hm, List.take_of_length_le (by rw [HN.out]; omega)]
      have HF := Lib.hid hf; clear hf hm
      go_wp2_with fail
      go_ret
      exact ⟨ret_int' HF.out, HB1.out⟩

set_option maxRecDepth 100000 in
theorem eval_calls (p : LP) (s : Value) (x : Int) (w : World) (hs : Ints w s p.c) (hp : POk p) (hx : x = 1 ∨ x = -1) :
    Calls Try.prog 23 #[.agg #[.int .i64 p.low, s], .int .i64 x] w fun e w' => e = .returned (.tuple #[.int .i64 (atR x p.low p.c), .int .i64 0]) ∧ Below w.heap.size w w' := by
  have ss := hs.isSl
  obtain ⟨W1, hW1⟩ : ∃ W1, W1 = w.alloc (.cells #[.int .i64 p.low, s] 35) := ⟨_, rfl⟩
  have p1 : Pair W1 w.heap.size 35 (.int .i64 p.low) s := by rw [hW1]; exact pair_new _ _ _ _
  have b1 : Below w.heap.size w W1 := by rw [hW1]; exact (Below.refl _ _).alloc (Nat.le_refl _) _
  have HS1 := Lib.hid (hs.below b1)
  have HP := Lib.hid hp; have P1 := Lib.hid p1; have HX := Lib.hid hx
  have c0 := p1.cell0; have c1 := p1.cell1
  have HW1 := Lib.hid hW1.symm; have HB1 := Lib.hid b1
  clear hs hp hW1 p1 b1
  have g : ((x != 1) = false) ∨ ((x != 1) = true ∧ (x != -1) = false) := by rcases hx with rfl | rfl <;> simp
  clear hx
  rcases g with g | ⟨g, g'⟩
  all_goals
    go_enter Try.func23, Try.ntmps23
    go_wp2_with fail
    rw [HW1.out]
    go_wp2_with fail
    refine (lcheck_calls p s _ HS1.out HP.out).mono ?_
    rintro e u1 ⟨rfl, hb⟩
    have p2 := P1.out.below hb
    have d0 := p2.cell0; have d1 := p2.cell1
    have HS2 := Lib.hid (HS1.out.below hb); have HB2 := Lib.hid (Below.chain HB1.out hb)
    clear hb p2
    go_wp2_with fail
    refine (at_calls p s x _ HS2.out HP.out HX.out).mono ?_
    rintro e u2 ⟨rfl, hb⟩
    have HB3 := Lib.hid (Below.chain HB2.out hb); clear hb
    go_wp2_with fail
    go_ret2
    exact ⟨rfl, HB3.out⟩

end Go.Proofs.Ytckopilciekfbaa


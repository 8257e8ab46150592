/- jonesOne: for every input the statement returns true, and nothing that was there has changed. -/
import Derived.Test.YtckopilciekfbaaQJonesOne0
import Derived.Test.YtckopilciekfbaaQJonesOne1
import Derived.Test.YtckopilciekfbaaQJonesOne2
import Derived.Test.YtckopilciekfbaaQJonesOne3
import Derived.Test.YtckopilciekfbaaQJonesOne4
import Derived.Test.YtckopilciekfbaaQJonesOne5
import Derived.Test.YtckopilciekfbaaQJonesOne6
import Derived.Test.YtckopilciekfbaaQJonesOne7
import Derived.Test.YtckopilciekfbaaQJonesOne8
import Derived.Test.YtckopilciekfbaaQJonesOne9
import Derived.Test.YtckopilciekfbaaQJonesOne10
import Derived.Test.YtckopilciekfbaaQJonesOne11
import Derived.Test.YtckopilciekfbaaQJonesOne12
import Derived.Test.YtckopilciekfbaaQJonesOne13
import Derived.Test.YtckopilciekfbaaQJonesOne14
import Derived.Test.YtckopilciekfbaaQJonesOne15
import Derived.Test.YtckopilciekfbaaQJonesOne16
import Derived.Test.YtckopilciekfbaaQJonesOne17
import Derived.Test.YtckopilciekfbaaQJonesOne18
import Derived.Test.YtckopilciekfbaaQJonesOne19
import Derived.Test.YtckopilciekfbaaQJonesOne20
import Derived.Test.YtckopilciekfbaaQJonesOne21
import Derived.Test.YtckopilciekfbaaQJonesOne22
import Derived.Test.YtckopilciekfbaaQJonesOne23
import Derived.Test.YtckopilciekfbaaQJonesOne24
import Derived.Test.YtckopilciekfbaaQJonesOne25
import Derived.Test.YtckopilciekfbaaQJonesOne26
import Derived.Test.YtckopilciekfbaaQJonesOne27
import Derived.Test.YtckopilciekfbaaQJonesOne28
import Derived.Test.YtckopilciekfbaaQJonesOne29
import Derived.Test.YtckopilciekfbaaQJonesOne30
import Derived.Test.YtckopilciekfbaaQJonesOne31
import Derived.Test.YtckopilciekfbaaQJonesOne32
import Derived.Test.YtckopilciekfbaaQJonesOne33
import Derived.Test.YtckopilciekfbaaQJonesOne34
import Derived.Test.YtckopilciekfbaaQJonesOne35
import Derived.Test.YtckopilciekfbaaQJonesOne36
import Derived.Test.YtckopilciekfbaaQJonesOne37
import Derived.Test.YtckopilciekfbaaQJonesOne38
import Derived.Test.YtckopilciekfbaaQJonesOne39
import Derived.Test.YtckopilciekfbaaQJonesOne40
import Derived.Test.YtckopilciekfbaaQJonesOne41
import Derived.Test.YtckopilciekfbaaQJonesOne42
import Derived.Test.YtckopilciekfbaaQJonesOne43
import Derived.Test.YtckopilciekfbaaQJonesOne44
import Derived.Test.YtckopilciekfbaaQJonesOne45
import Derived.Test.YtckopilciekfbaaQJonesOne46
import Derived.Test.YtckopilciekfbaaQJonesOne47
import Derived.Test.YtckopilciekfbaaQJonesOne48
import Derived.Test.YtckopilciekfbaaQJonesOne49
import Derived.Test.YtckopilciekfbaaQJonesOne50
import Derived.Shelf.Strings.Builder1
import Derived.RangeFuncNested
import Derived.RangeFuncBound
import Derived.RangeFuncCalls
import Derived.RangeFuncLeaves
import Derived.RangeFuncBox
import Derived.Shelf.Abstract
import Derived.Shelf.RegionOpen
import Derived.OwnWalkIn
import Derived.TacticsInMore
import Derived.LoopNIn
import Derived.LoopIn
import Derived.Maps.AppendAt
import Derived.OrdersIn
import Derived.OrdersHeld
import Derived.Deep.RegionHeld
import Derived.Lib.SliceRun
import Derived.Deep.CutRange
import Derived.Deep.RegionLaw
namespace Go.Proofs.Ytckopilciekfbaa
open Go.RowKit Go.Sl Go.Mp Go.TL

theorem at_one : ∀ (c : List Int) (e : Int), ((atR 1 e c : Int) : Rat) = evL c 1
  | [], _ => rfl
  | c :: cs, e => by
    have h : ¬ ((1 : Int) < 0 ∧ e % 2 ≠ 0) := fun h => absurd h.1 (by decide)
    rw [atR, if_neg h, evL, Rat.intCast_add, at_one cs (e + 1)]; grind
theorem ev_one (p : LP) : ev p 1 = ((atR 1 p.low p.c : Int) : Rat) := by
  rw [at_one]; unfold ev; rw [one_zp, Rat.one_mul]
theorem pow_cast (k : Nat) : (-2 : Rat) ^ k = (((-2 : Int) ^ k : Int) : Rat) := by
  induction k with
  | zero => rfl
  | succ k ih =>
    have e : ((-2 : Int) : Rat) = -2 := by simp
    rw [Rat.pow_succ, ih, Int.pow_succ, Rat.intCast_mul, e]
theorem pok_jones12 {p : LP} {L : Nat} (hl : L ≤ 12) (ht : Trimmed p) (hw : Within p (-(6 * (L : Int) + 10)) (6 * (L : Int) + 11)) (hn : n1 p.c ≤ 3 ^ L * 32) : POk p := by
  have b := pow3_le (k := L) hl
  exact POk.of ht hw (by omega) (by omega) (by omega) (by omega) (Nat.le_trans hn (by omega))

set_option maxHeartbeats 8000000 in
set_option maxRecDepth 100000 in
theorem jonesOne_true {w0 : World} (n : Int) (hn : I64 n) (a : Value) (as1 : List Int) (hra : Ints w0 a as1) (hxa : ∀ x ∈ as1, I64 x) (w : World) (hw : w = w0 := by rfl) :
    Calls Try.prog 10 #[.int .i64 n, a] w fun e w' => e = .returned (.bool true) ∧ Below w.heap.size w w' := by
  subst hw
  obtain ⟨N0, hN⟩ : ∃ N : Nat, 2 + n % (6 - 1) = (N : Int) := ⟨(2 + n % (6 - 1)).toNat, by omega⟩
  have hN1 : 2 ≤ N0 := by omega
  have hN2 : N0 ≤ 6 := by omega
  have hN3 : 1 ≤ N0 := by omega
  obtain ⟨M, S, P, Tr, H, ALL⟩ := one_all N0 hN1 hN2
  have sa := hra.isSl
  obtain ⟨X, hX⟩ : ∃ X, X = wordL ((N0 : Int) - 1) as1 12 := ⟨_, rfl⟩
  have hwN : IntKind.i64.wrap ((N0 : Int) - 1) = (N0 : Int) - 1 := IntWalk.i64_in _ ⟨by omega, by omega⟩
  have bX : BWord (N0 : Int) X := by rw [hX]; exact wordL_bw (by omega) as1 12
  have lX : X.length ≤ 12 := by rw [hX]; exact wordL_length _ as1 12
  have nX : NWord N0 X := fun x hx => by have := bX x hx; omega
  have J1 := Lib.hid (fun W v hv => jones_calls H hN3 hN2 v X W hv nX lX)
  have CM := Lib.hid (fun W v hv => components_calls N0 v X W hv hN1 hN2 bX (by omega))
  have HALL := Lib.hid (ALL X nX)
  have HN := Lib.hid hN; have HX := Lib.hid hX.symm; have LX := Lib.hid lX
  have RA := Lib.hid hra; have XA := Lib.hid hxa
  clear hN hX H ALL bX lX nX hra hxa
  go_enter Try.func10, Try.ntmps10
  go_wp2_with fail
  refine (strands_calls n 6 w hn (by decide) (by decide)).mono ?_
  rw [HN.out]
  rintro e w' ⟨rfl, rfl⟩
  go_wp2_with fail
  refine (word_calls ((N0 : Int) - 1) a as1 12 _ RA.out XA.out (by omega) (by omega) (by decide)).mono ?_
  rintro e u1 ⟨x, rfl, ho, hb⟩
  rw [HX.out] at ho
  have sx := ho.isSl
  have IX0 := ho.ints
  clear ho
  have IX := Lib.hid (IX0)
  replace RA := Lib.hid (RA.out.below hb)
  have HB := Lib.hid hb
  clear hb
  go_wp2_with fail
  refine (J1.out _ _ IX.out).mono ?_
  rintro e v1 ⟨p1, s, rfl, hs, t1, t2, t3, t4, hb⟩
  obtain ⟨a1, b1, c1, rfl, -⟩ := hs.isSl.cases
  have ss1 := hs.isSl
  replace IX := Lib.hid (IX.out.below hb); replace HB := Lib.hid (Below.chain HB.out hb)
  obtain ⟨A1, hA1⟩ : ∃ A, A = World.alloc v1 (.cells #[.int .i64 p1.low, .slice a1 b1 c1] 35) := ⟨_, rfl⟩
  have gA : Below v1.heap.size v1 A1 := by rw [hA1]; exact (Below.refl _ _).alloc (Nat.le_refl _) _
  have S1 := Lib.hid (hs.ints.below gA); have hA1' := hA1.symm
  replace IX := Lib.hid (IX.out.below gA); replace HB := Lib.hid (Below.chain HB.out gA)
  have pA : Pair A1 v1.heap.size 35 (.int .i64 p1.low) (.slice a1 b1 c1) := by rw [hA1]; exact pair_new _ _ _ _
  have o1 := pok_jones12 LX.out t1 t2 t3
  have hv := t4 1 (by decide)
  rw [ev_one] at hv
  have O1 := Lib.hid o1; have HV := Lib.hid hv
  have c0 := pA.cell0; have c1' := pA.cell1; have hk1 := pA.lt
  clear hs t1 t2 t3 t4 hb gA pA hA1 o1 hv
  go_wp2_with fail
  clear hA1' c0 c1'
  refine (eval_calls p1 _ 1 _ S1.out O1.out (by decide)).mono ?_
  rintro e w2 ⟨rfl, hb⟩
  replace IX := Lib.hid (IX.out.below hb); replace HB := Lib.hid (Below.chain HB.out hb)
  clear hb S1
  go_wp2_with fail
  refine (CM.out _ _ IX.out).mono ?_
  rintro e w3 ⟨out, vs, C, lab, rfl, hrows, hcyc, hlab, hb⟩
  have sout := hrows.isSl
  have lout := hrows.len
  obtain ⟨d, hd⟩ : ∃ d, C.length = d + 1 := ⟨C.length - 1, by have := (HALL.out _ hcyc).1; simp at this; omega⟩
  have hCl := cyc_count hcyc
  rw [List.length_map, backL_length, strandsL_length, hd] at hCl
  obtain ⟨-, hval⟩ := HALL.out _ hcyc
  rw [List.length_map, hd, Nat.add_sub_cancel, ← HV.out, pow_cast] at hval
  have hk : atR 1 p1.low p1.c = (-2) ^ d := Rat.intCast_inj.1 hval
  rw [hk]
  rw [hd] at lout
  have hd5 : d ≤ 5 := by omega
  replace HB := Lib.hid (Below.chain HB.out hb)
  clear hrows hcyc hlab hb hval hk hd IX HV HALL hCl
  go_wp2_with fail
  go_loop [12, 39] (fun wnt i => ∃ k : Nat, k ≤ d ∧ i = .int .i64 k ∧ wnt = .int .i64 ((-2) ^ k)) (fun _ i => d - (intOf i).toNat)
  case atStart => exact ⟨0, Nat.zero_le _, rfl, rfl⟩
  case round =>
    obtain ⟨k, hk, rfl, rfl⟩ := hrel
    by_cases hlt : k < d
    · obtain ⟨z, hz⟩ : ∃ z : Int, (-2) ^ k = z := ⟨_, rfl⟩
      have hzb : -32 ≤ z ∧ z ≤ 32 := by
        rw [← hz]
        obtain rfl | rfl | rfl | rfl | rfl : k = 0 ∨ k = 1 ∨ k = 2 ∨ k = 3 ∨ k = 4 := by omega
        all_goals decide
      have hnx : (-2 : Int) ^ (k + 1) = z * -2 := by rw [Int.pow_succ, hz]
      obtain ⟨hz1, hz2⟩ := hzb
      rw [hz]
      have HZ := Lib.hid hz; have HNX := Lib.hid hnx
      clear hz hnx
      go_wp2_with fail
      go_round
      case rel => exact ⟨k + 1, by omega, by go_num, by rw [HNX.out]⟩
      case measure => simp [intOf]; omega
    · obtain rfl : k = d := by omega
      obtain ⟨z, hz⟩ : ∃ z : Int, (-2) ^ k = z := ⟨_, rfl⟩
      rw [hz]
      clear hz
      go_wp2_with fail
      refine (jonesed_calls _).mono ?_
      rintro e w4 ⟨rfl, hb⟩
      replace HB := Lib.hid (Below.chain HB.out hb)
      clear hb
      go_wp2_with fail
      go_ret
      exact ⟨rfl, HB.out⟩
end Go.Proofs.Ytckopilciekfbaa


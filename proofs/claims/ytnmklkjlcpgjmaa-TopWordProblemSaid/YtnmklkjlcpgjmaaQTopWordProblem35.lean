/- garside.half, loose walked. -/
import Derived.Test.YtnmklkjlcpgjmaaQTopWordProblem0
import Derived.Test.YtnmklkjlcpgjmaaQTopWordProblem1
import Derived.Test.YtnmklkjlcpgjmaaQTopWordProblem3
import Derived.Test.YtnmklkjlcpgjmaaQTopWordProblem5
import Derived.Test.YtnmklkjlcpgjmaaQTopWordProblem6
import Derived.Test.YtnmklkjlcpgjmaaQTopWordProblem7
import Derived.Test.YtnmklkjlcpgjmaaQTopWordProblem8
import Derived.Test.YtnmklkjlcpgjmaaQTopWordProblem9
import Derived.Test.YtnmklkjlcpgjmaaQTopWordProblem10
import Derived.Test.YtnmklkjlcpgjmaaQTopWordProblem11
import Derived.Test.YtnmklkjlcpgjmaaQTopWordProblem12
import Derived.Test.YtnmklkjlcpgjmaaQTopWordProblem15
import Derived.Test.YtnmklkjlcpgjmaaQTopWordProblem16
import Derived.Test.YtnmklkjlcpgjmaaQTopWordProblem17
import Derived.Test.YtnmklkjlcpgjmaaQTopWordProblem18
import Derived.Test.YtnmklkjlcpgjmaaQTopWordProblem19
import Derived.Test.YtnmklkjlcpgjmaaQTopWordProblem20
import Derived.Test.YtnmklkjlcpgjmaaQTopWordProblem31
import Derived.Test.YtnmklkjlcpgjmaaQTopWordProblem32
import Derived.Test.YtnmklkjlcpgjmaaQTopWordProblem34
import Derived.Deep.QuietTactic
import Derived.BigQuiet
import Derived.IntWalk
namespace Go.Proofs.Ytnmklkjlcpgjmaa
open Go.RowKit Go.Sl

/-- What loose tells. -/
def LooseIs (n : Nat) (xs ys : List Int) (r : Int) : Prop := (r = -1 ∧ ∀ i, i + 1 < n → dn ys i → ¬ up xs i) ∨ ∃ i : Nat, r = i ∧ i + 1 < n ∧ dn ys i ∧ up xs i
set_option maxRecDepth 100000 in
set_option maxHeartbeats 2000000 in
theorem loose_calls (n : Nat) (a b : Value) (xs ys : List Int) (w : World) (ha : Ints w a xs) (hb : Ints w b ys) (hx : Pn n xs) (hy : Pn n ys) (h1 : 1 ≤ n) :
    Calls Try.prog 52 #[a, b] w fun e w' => ∃ r, e = .returned (.int .i64 r) ∧ LooseIs n xs ys r ∧ Below w.heap.size w w' := by
  have sa := ha.isSl
  have sb := hb.isSl
  have lb := hb.len
  rw [hy.len] at lb
  have hn1000 : n ≤ 1000 := by rw [← hy.len]; exact hy.perm.small
  have HA := Lib.hid ha; have HB := Lib.hid hb; have HX := Lib.hid hx; have HY := Lib.hid hy
  clear ha hb hx hy
  go_enter Try.func52, Try.ntmps52
  go_wp2_with fail
  refine (back_calls a xs _ HA.out HX.out.perm).mono ?_
  rintro e w1 ⟨c, rfl, hc, hbw⟩
  have sc := hc.isSl
  have lc := hc.len
  rw [backL_length, HX.out.len] at lc
  have HC := Lib.hid hc.ints; have HB1 := Lib.hid (HB.out.below hbw); have HBW := Lib.hid hbw
  clear hc hbw
  go_wp2_with fail
  go_loopw [12] (fun i wr => ∃ k : Nat, k + 1 ≤ n ∧ i = .int .i64 k ∧ (∀ i, i < k → dn ys i → ¬ up xs i) ∧ Below w1.heap.size w1 wr) (fun i _ => n - (intOf i).toNat)
  case atStart => exact ⟨0, by omega, rfl, fun i hi => by omega, Below.refl _ _⟩
  case round =>
    obtain ⟨k, hk, rfl, hno, hb⟩ := hrel
    by_cases hlt : k + 1 < n
    · have hlt' : (k : Int) < (n : Int) - 1 := by omega
      have hB2 := HB1.out.below hb
      have hC2 := HC.out.below hb
      have c1 := hB2.cell (k := k) (by rw [HY.out.len]; omega)
      have c2 := hB2.cell (k := k + 1) (by rw [HY.out.len]; omega)
      have d1 := hC2.cell (k := k) (by rw [backL_length, HX.out.len]; omega)
      have d2 := hC2.cell (k := k + 1) (by rw [backL_length, HX.out.len]; omega)
      have hdn : dn ys k ↔ nth ys (k + 1) < nth ys k := Iff.rfl
      have hup : up xs k ↔ nth (backL xs) k < nth (backL xs) (k + 1) := Iff.rfl
      obtain ⟨p, hp⟩ : ∃ p, nth ys k = p := ⟨_, rfl⟩
      obtain ⟨q, hq⟩ : ∃ q, nth ys (k + 1) = q := ⟨_, rfl⟩
      obtain ⟨r, hr⟩ : ∃ r, nth (backL xs) k = r := ⟨_, rfl⟩
      obtain ⟨s, hs⟩ : ∃ s, nth (backL xs) (k + 1) = s := ⟨_, rfl⟩
      rw [hp] at c1; rw [hq] at c2; rw [hr] at d1; rw [hs] at d2
      rw [hp, hq] at hdn
      rw [hr, hs] at hup
      have hk1 : (((k : Int) + 1)).toNat = k + 1 := by omega
      have wk : IntKind.i64.wrap ((k : Int) + 1) = (k : Int) + 1 := IntWalk.i64_in _ ⟨by omega, by omega⟩
      have hk0 : (0 : Int) ≤ (k : Int) + 1 := by omega
      have hkn : (k : Int) + 1 < (n : Int) := by omega
      have HDN := Lib.hid hdn; have HUP := Lib.hid hup; have HNO := Lib.hid hno; have HBR := Lib.hid hb
      clear hdn hup hno hb hB2 hC2 hp hq hr hs
      by_cases e1 : p > q
      · by_cases e2 : r < s
        · have hd := HDN.out.2 e1
          have hu := HUP.out.2 e2
          have HD := Lib.hid hd; have HU := Lib.hid hu
          clear hd hu
          go_wp2_with fail
          go_quiet (fail)
          clear wk
          go_wp2_with fail
          go_ret
          exact ⟨k, rfl, .inr ⟨k, rfl, hlt, HD.out, HU.out⟩, Below.chain HBW.out (Below.trans HBR.out (Below.drawn _ |>.mono HBR.out.size))⟩
        · have hu : ¬ up xs k := fun h => e2 (HUP.out.1 h)
          have HU := Lib.hid hu
          have e3 : decide (r < s) = false := decide_eq_false e2
          clear hu
          go_wp2_with fail
          go_quiet (fail)
          clear wk
          go_wp2_with fail
          go_roundw
          case rel => exact ⟨k + 1, by omega, by go_num, fun i hi hd => (by
            rcases Nat.lt_or_ge i k with h | h
            · exact HNO.out i h hd
            · obtain rfl : i = k := by omega
              exact HU.out), Below.trans HBR.out (Below.drawn _ |>.mono HBR.out.size)⟩
          case measure => simp [intOf]; omega
      · have hd : ¬ dn ys k := fun h => e1 (HDN.out.1 h)
        have HD := Lib.hid hd
        have e3 : decide (q < p) = false := decide_eq_false e1
        clear hd
        go_wp2_with fail
        go_quiet (fail)
        clear wk
        go_wp2_with fail
        go_roundw
        case rel => exact ⟨k + 1, by omega, by go_num, fun i hi hd => (by
          rcases Nat.lt_or_ge i k with h | h
          · exact HNO.out i h hd
          · obtain rfl : i = k := by omega
            exact absurd hd HD.out), Below.trans HBR.out (Below.drawn _ |>.mono HBR.out.size)⟩
        case measure => simp [intOf]; omega
    · have hlt' : ¬ (k : Int) < (n : Int) - 1 := by omega
      have HBR := Lib.hid hb; have HNO := Lib.hid hno
      clear hb hno
      go_wp2_with fail
      go_ret
      exact ⟨-1, rfl, .inl ⟨rfl, fun i hi => HNO.out i (by omega)⟩, Below.chain HBW.out HBR.out⟩

end Go.Proofs.Ytnmklkjlcpgjmaa


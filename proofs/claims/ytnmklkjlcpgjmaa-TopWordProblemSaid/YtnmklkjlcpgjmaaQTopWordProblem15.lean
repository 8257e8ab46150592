/- The functions of package perm and the makers of permutations, walked. -/
import Derived.Test.YtnmklkjlcpgjmaaQTopWordProblem0
import Derived.Test.YtnmklkjlcpgjmaaQTopWordProblem1
import Derived.Test.YtnmklkjlcpgjmaaQTopWordProblem5
import Derived.Test.YtnmklkjlcpgjmaaQTopWordProblem6
import Derived.Test.YtnmklkjlcpgjmaaQTopWordProblem11
import Derived.Deep.RegionLaw
namespace Go.Proofs.Ytnmklkjlcpgjmaa
open Go.RowKit Go.Sl


theorem back_calls (a : Value) (xs : List Int) (w : World) (ha : Ints w a xs) (hp : IsPerm xs) :
    Calls Try.prog 54 #[a] w fun e w' => ∃ v, e = .returned v ∧ OwnI w' w.heap.size v (backL xs) ∧ Below w.heap.size w w' := by
  have sa := ha.isSl
  have la := ha.len
  have hs := hp.small
  have HA := Lib.hid ha; clear ha
  have HP := Lib.hid hp; clear hp
  go_enter Try.func54, Try.ntmps54
  go_wp2_with (first
    | (at_make; refine wpList_make rfl _ _ rfl _ _ xs.length rfl rfl rfl rfl (by omega) ?_; intro out w1 ho1 hg1 hlo hsz; have so := ho1.isSl))
  have hb1 : Below w.heap.size w w1 := Below_of_grown (Below.refl _ _) hg1 (Nat.le_refl _) (by intro k hk; cases hk)
  have HO := Lib.hid ho1; clear ho1 hg1
  have HS := Lib.hid hsz; clear hsz
  go_loopw [11] (fun i wr => ∃ k : Nat, k ≤ xs.length ∧ i = .int .i64 k ∧ OwnI wr w.heap.size out (backTo xs k) ∧ Below w.heap.size w wr) (fun i _ => xs.length - (intOf i).toNat)
  case atStart => exact ⟨0, Nat.zero_le _, rfl, by rw [backTo_zero]; exact HO.out, hb1⟩
  case round =>
    obtain ⟨k, hk, rfl, ho, hbr⟩ := hrel
    by_cases hlt : k < xs.length
    · have hxk := HP.out.range _ (nth_mem hlt)
      have hlf : (backTo xs k).length = xs.length := backTo_length _ _
      have c1 := (HA.out.below hbr).cell hlt
      have c3 := ho.cell (k := (nth xs k).toNat) (by omega)
      have f3 := ho.frozen (k := (nth xs k).toNat) (by omega)
      have hset := ho.set (k := (nth xs k).toNat) (by omega) k
      have hbs := hbr.setCell (ho.ge (k := (nth xs k).toNat) (by omega)) (.int .i64 k)
      rw [← backTo_succ] at hset
      have HS1 := Lib.hid hset; clear hset
      have HS2 := Lib.hid hbs; clear hbs
      clear hlf ho hbr hb1
      go_wp2_with fail
      go_roundw
      case rel => exact ⟨k + 1, by omega, by go_num, HS1.out, HS2.out⟩
      case measure => simp [intOf]; omega
    · go_wp2_with fail
      go_ret
      have hk' : k = xs.length := by omega
      subst hk'
      exact ⟨out, rfl, ho, hbr⟩

end Go.Proofs.Ytnmklkjlcpgjmaa


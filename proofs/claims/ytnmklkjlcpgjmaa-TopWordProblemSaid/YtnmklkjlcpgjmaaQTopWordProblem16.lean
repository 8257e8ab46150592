/- perm.Identity, Compare of slices, Clip, walked. -/
import Derived.Test.YtnmklkjlcpgjmaaQTopWordProblem0
import Derived.Test.YtnmklkjlcpgjmaaQTopWordProblem1
import Derived.Test.YtnmklkjlcpgjmaaQTopWordProblem5
import Derived.Test.YtnmklkjlcpgjmaaQTopWordProblem6
import Derived.Test.YtnmklkjlcpgjmaaQTopWordProblem7
import Derived.Test.YtnmklkjlcpgjmaaQTopWordProblem11
import Derived.Test.YtnmklkjlcpgjmaaQTopWordProblem15

namespace Go.Proofs.Ytnmklkjlcpgjmaa
open Go.RowKit Go.Sl

set_option maxRecDepth 100000 in
theorem identity_calls (n : Nat) (w : World) (hn : n ≤ 1000) :
    Calls Try.prog 42 #[.int .i64 n] w fun e w' => ∃ v, e = .returned v ∧ OwnI w' w.heap.size v (iota n) ∧ Below w.heap.size w w' := by
  have hil : (iota n).length = n := by simp [iota]
  go_enter Try.func42, Try.ntmps42
  go_wp2_with (first
    | (at_make; refine wpList_make rfl _ _ rfl _ _ n rfl rfl rfl rfl (by omega) ?_; intro out w1 ho1 hg1 hlo hsz; have so := ho1.isSl))
  have hb1 : Below w.heap.size w w1 := Below_of_grown (Below.refl _ _) hg1 (Nat.le_refl _) (by intro k hk; cases hk)
  have HO := Lib.hid ho1; clear ho1 hg1
  have HS := Lib.hid hsz; clear hsz
  have HB := Lib.hid hb1; clear hb1
  go_loopw [9] (fun i wr => ∃ k : Nat, k ≤ n ∧ i = .int .i64 k ∧ OwnI wr w.heap.size out (fill (iota n) k) ∧ Below w.heap.size w wr) (fun i _ => n - (intOf i).toNat)
  case atStart => exact ⟨0, Nat.zero_le _, rfl, by rw [fill_zero, hil]; exact HO.out, HB.out⟩
  case round =>
    obtain ⟨k, hk, rfl, ho, hbr⟩ := hrel
    by_cases hlt : k < n
    · have hlf : (fill (iota n) k).length = n := by rw [fill_length _ _ (by rw [hil]; exact hk), hil]
      have c3 := ho.cell (k := k) (by omega)
      have f3 := ho.frozen (k := k) (by omega)
      have hset := ho.set (k := k) (by omega) (k : Int)
      have hbs := hbr.setCell (ho.ge (k := k) (by omega)) (.int .i64 (k : Int))
      have hnext := fill_set (iota n) k (by rw [hil]; exact hlt)
      rw [show nth (iota n) k = (k : Int) from by simp [iota, nth, hlt]] at hnext
      rw [hnext] at hset
      have HS1 := Lib.hid hset; clear hset
      have HS2 := Lib.hid hbs; clear hbs
      clear hnext hlf ho hbr
      go_wp2_with fail
      go_roundw
      case rel => exact ⟨k + 1, by omega, by go_num, HS1.out, HS2.out⟩
      case measure => simp [intOf]; omega
    · go_wp2_with fail
      go_ret
      have hk' : k = n := by omega
      subst hk'
      exact ⟨out, rfl, by rw [show fill (iota k) k = iota k from by have := fill_all (iota k); rwa [hil] at this] at ho; exact ho, hbr⟩

end Go.Proofs.Ytnmklkjlcpgjmaa


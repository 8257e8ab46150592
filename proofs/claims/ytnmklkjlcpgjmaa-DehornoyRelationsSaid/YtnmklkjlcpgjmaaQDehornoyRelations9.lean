/- timbmake.Below walked. -/
import Derived.Test.YtnmklkjlcpgjmaaQDehornoyRelations0
import Derived.Test.YtnmklkjlcpgjmaaQDehornoyRelations1
import Derived.Test.YtnmklkjlcpgjmaaQDehornoyRelations2

namespace Go.Proofs.Ytnmklkjlcpgjmaa
open Go.RowKit Go.Sl

theorem tmod_bounds (n m : Int) (h : 0 < m) : -m < n.tmod m ∧ n.tmod m < m := by
  have h1 := Int.tmod_lt_of_pos n h
  have h2 := Int.tmod_lt_of_pos (-n) h
  rw [Int.neg_tmod] at h2
  omega
theorem emod_of_tmod (n m : Int) (h : 0 < m) : n % m = if n.tmod m < 0 then n.tmod m + m else n.tmod m := by
  have hb := tmod_bounds n m h
  have h1 : n % m = (n.tmod m) % m := by
    conv => lhs; rw [← Int.tmod_add_mul_tdiv n m]
    rw [Int.add_mul_emod_self_left]
  rw [h1]
  split
  · rw [← Int.add_emod_right, Int.emod_eq_of_lt (by omega) (by omega)]
  · rw [Int.emod_eq_of_lt (by omega) (by omega)]

theorem below_calls (n m : Int) (w : World) (h : 0 < m) (hm : m ≤ 4611686018427387904) (_hn : I64 n) :
    Calls Try.prog 18 #[.int .i64 n, .int .i64 m] w fun e w' => e = .returned (.int .i64 (n % m)) ∧ w = w' := by
  unfold I64 at _hn
  have h1 := emod_of_tmod n m h
  have hb := tmod_bounds n m h
  have H1 := Lib.hid h1; clear h1
  by_cases hs : n.tmod m < 0
  all_goals
    go_enter Try.func18, Try.ntmps18
    go_wp2
    go_ret
    exact ⟨by rw [H1.out]; first | (rw [if_pos (by assumption)]; rfl) | (rw [if_neg (by omega)]; rfl), rfl⟩

end Go.Proofs.Ytnmklkjlcpgjmaa


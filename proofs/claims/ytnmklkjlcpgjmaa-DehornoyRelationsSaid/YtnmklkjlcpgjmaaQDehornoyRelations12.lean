/- The builtins min and max of two ints, without a split. Holds of every program. -/
import Derived.Test.YtnmklkjlcpgjmaaQDehornoyRelations0
import Derived.Test.YtnmklkjlcpgjmaaQDehornoyRelations1
import Derived.Test.YtnmklkjlcpgjmaaQDehornoyRelations2

namespace Go.Proofs.Ytnmklkjlcpgjmaa
open Go.RowKit Go.Sl

@[go_sem ↓ high] theorem run_max2 {P : Program} (w : World) (ts : Array TypeId) (t : TypeId) (x y : Int) : (Builtin.max_ ts t #[.int .i64 x, .int .i64 y]).run P w = .ok (.int .i64 (max x y)) w := by
  have h : max x y = if y > x then y else x := by split <;> omega
  rw [h]; simp [Builtin.max_, Builtin.max2]
@[go_sem ↓ high] theorem run_min2 {P : Program} (w : World) (ts : Array TypeId) (t : TypeId) (x y : Int) : (Builtin.min_ ts t #[.int .i64 x, .int .i64 y]).run P w = .ok (.int .i64 (min x y)) w := by
  have h : min x y = if y < x then y else x := by split <;> omega
  rw [h]; simp [Builtin.min_, Builtin.min2]

end Go.Proofs.Ytnmklkjlcpgjmaa


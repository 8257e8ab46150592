/- perm.Sign and Cycles walked. -/
import Derived.Test.YtckopilciekfbaaQColorCounts20
import Derived.Test.YtckopilciekfbaaQColorCounts21
import Derived.Test.YtckopilciekfbaaQColorCounts22
import Derived.Test.YtckopilciekfbaaQColorCounts23
import Derived.Test.YtckopilciekfbaaQColorCounts24
import Derived.Test.YtckopilciekfbaaQColorCounts25
import Derived.Test.YtckopilciekfbaaQColorCounts26
import Derived.Test.YtckopilciekfbaaQColorCounts210
import Derived.Test.YtckopilciekfbaaQColorCounts211
import Derived.Test.YtckopilciekfbaaQColorCounts213
import Derived.Test.YtckopilciekfbaaQColorCounts217
import Derived.Test.YtckopilciekfbaaQColorCounts231
import Derived.Shelf.Abstract
import Derived.Lib.SliceRun
namespace Go.Proofs.Ytckopilciekfbaa
open Go.RowKit Go.Sl

theorem clipV_calls (v : Value) (vs : List Value) (w : World) (h : Sl w v 1 vs) :
    Calls Try.prog 93 #[v] w fun e w' => (∃ v', e = .returned v' ∧ Sl w v' 1 vs) ∧ w = w' := by
  have sv := h.isSl
  have lv : vlen v = vs.length := by have := h.2.1; omega
  have hcap := sv.le
  have hcut := h.cut (l := 0) (r := vs.length) (m := vs.length) (by omega) (by omega) (Nat.le_refl _) (by omega)
  rw [Nat.zero_mul, List.drop_zero, Nat.sub_zero, Nat.mul_one, List.take_length] at hcut
  have HC := Lib.hid hcut
  obtain ⟨n, hn⟩ : ∃ n, vs.length = n := ⟨_, rfl⟩
  rw [hn] at lv HC
  clear h hcut hn
  have hnc : n ≤ vcap v := by omega
  go_enter Try.func93, Try.ntmps93
  go_wp2
  go_ret
  exact ⟨⟨_, rfl, HC.out⟩, rfl⟩

end Go.Proofs.Ytckopilciekfbaa


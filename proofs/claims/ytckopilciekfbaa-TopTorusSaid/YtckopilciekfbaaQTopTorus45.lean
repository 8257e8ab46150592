/- perm.Sign and Cycles walked. -/
import Derived.Test.YtckopilciekfbaaQTopTorus0
import Derived.Test.YtckopilciekfbaaQTopTorus1
import Derived.Test.YtckopilciekfbaaQTopTorus2
import Derived.Test.YtckopilciekfbaaQTopTorus3
import Derived.Test.YtckopilciekfbaaQTopTorus4
import Derived.Test.YtckopilciekfbaaQTopTorus6
import Derived.Test.YtckopilciekfbaaQTopTorus9
import Derived.Test.YtckopilciekfbaaQTopTorus13
import Derived.Test.YtckopilciekfbaaQTopTorus14
import Derived.Test.YtckopilciekfbaaQTopTorus44
import Derived.Shelf.Abstract
import Derived.Lib.SliceRun
namespace Go.Proofs.Ytckopilciekfbaa
open Go.RowKit Go.Sl

theorem clipV_calls (v : Value) (vs : List Value) (w : World) (h : Sl w v 1 vs) :
    Calls Try.prog 93 #[v] w fun e w' => (∃ v', e = .returned v' ∧ Sl w v' 1 vs) ∧ w = w' := by
  have sv := h.isSl
  have lv : vlen v = vs.length := by have := h.2.1; omega
  have hcap := sv.le
  have hcut := h.cut (l := 0) (r := vs.length) (m := vs.length) (by omega) (by omega) (Nat.le_refl _) (by omega)
  rw [Nat.zero_mul, List.drop_zero, Nat.sub_zero, Nat.mul_one, List.take_length] at hcut
  have HC := Lib.hid hcut
  obtain ⟨n, hn⟩ : ∃ n, vs.length = n := ⟨_, rfl⟩
  rw [hn] at lv HC
  clear h hcut hn
  have hnc : n ≤ vcap v := by omega
  go_enter Try.func93, Try.ntmps93
  go_wp2
  go_ret
  exact ⟨⟨_, rfl, HC.out⟩, rfl⟩

end Go.Proofs.Ytckopilciekfbaa


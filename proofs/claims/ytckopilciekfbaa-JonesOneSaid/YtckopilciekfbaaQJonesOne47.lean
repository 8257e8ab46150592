/- perm.Sign and Cycles walked. -/
import Derived.Test.YtckopilciekfbaaQJonesOne0
import Derived.Test.YtckopilciekfbaaQJonesOne1
import Derived.Test.YtckopilciekfbaaQJonesOne5
import Derived.Test.YtckopilciekfbaaQJonesOne6
import Derived.Test.YtckopilciekfbaaQJonesOne7
import Derived.Test.YtckopilciekfbaaQJonesOne8
import Derived.Test.YtckopilciekfbaaQJonesOne10
import Derived.Test.YtckopilciekfbaaQJonesOne13
import Derived.Test.YtckopilciekfbaaQJonesOne18
import Derived.Test.YtckopilciekfbaaQJonesOne19
import Derived.Test.YtckopilciekfbaaQJonesOne46
import Derived.Shelf.Abstract
import Derived.Lib.SliceRun
namespace Go.Proofs.Ytckopilciekfbaa
open Go.RowKit Go.Sl

theorem cyc_count {a : List Int} {L : List Nat} (h : CycOK a L) : L.length ≤ a.length := by
  have h5 : ∀ L : List Nat, (∀ l ∈ L, 0 < l) → L.length ≤ L.sum := fun L => by
    induction L with
    | nil => intro _; simp
    | cons l L ih => intro h; have := ih fun x hx => h x (by simp [hx]); have := h l (by simp); simp; omega
  have := h5 L h.pos
  rw [h.sum] at this
  exact this

theorem clipV_calls (v : Value) (vs : List Value) (w : World) (h : Sl w v 1 vs) :
    Calls Try.prog 93 #[v] w fun e w' => (∃ v', e = .returned v' ∧ Sl w v' 1 vs) ∧ w = w' := by
  have sv := h.isSl
  have lv : vlen v = vs.length := by have := h.2.1; omega
  have hcap := sv.le
  have hcut := h.cut (l := 0) (r := vs.length) (m := vs.length) (by omega) (by omega) (Nat.le_refl _) (by omega)
  rw [Nat.zero_mul, List.drop_zero, Nat.sub_zero, Nat.mul_one, List.take_length] at hcut
  have HC := Lib.hid hcut
  obtain ⟨n, hn⟩ : ∃ n, vs.length = n := ⟨_, rfl⟩
  rw [hn] at lv HC
  clear h hcut hn
  have hnc : n ≤ vcap v := by omega
  go_enter Try.func93, Try.ntmps93
  go_wp2
  go_ret
  exact ⟨⟨_, rfl, HC.out⟩, rfl⟩

end Go.Proofs.Ytckopilciekfbaa


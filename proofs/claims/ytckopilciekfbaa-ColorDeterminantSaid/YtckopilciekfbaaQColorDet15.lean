/- laurent.Check, both, Fit, Add, Sub, Mul and the statements' mul, add, same, walked. -/
import Derived.Test.YtckopilciekfbaaQColorDet0
import Derived.Test.YtckopilciekfbaaQColorDet1
import Derived.Test.YtckopilciekfbaaQColorDet2
import Derived.Test.YtckopilciekfbaaQColorDet4
import Derived.Test.YtckopilciekfbaaQColorDet5
import Derived.Test.YtckopilciekfbaaQColorDet6
import Derived.Test.YtckopilciekfbaaQColorDet7
import Derived.Test.YtckopilciekfbaaQColorDet10
import Derived.Test.YtckopilciekfbaaQColorDet12
import Derived.Test.YtckopilciekfbaaQColorDet13
import Derived.Test.YtckopilciekfbaaQColorDet14

namespace Go.Proofs.Ytckopilciekfbaa
open Go.RowKit Go.Sl

/-- A polynomial as Check wants it. -/
structure POk (p : LP) : Prop where
  len : p.c.length ≤ 200
  lo1 : -1000 ≤ p.low
  lo2 : p.low ≤ 1000
  tr : Trimmed p
  co : n1 p.c ≤ 1000000000 ∧ ∀ x ∈ p.c, -100000000 ≤ x ∧ x ≤ 100000000
theorem POk.of {p : LP} {lo hi : Int} (ht : Trimmed p) (hw : Within p lo hi) (h1 : -1000 ≤ lo) (h2 : lo ≤ 0) (h3 : hi ≤ lo + 200) (h5 : hi ≤ 1000) (hn : n1 p.c ≤ 100000000) : POk p := by
  rcases hw with h | h
  · have h0 := ht.zero h
    exact ⟨by rw [h]; simp, by omega, by omega, ht, by omega, fun x hx => by rw [h] at hx; cases hx⟩
  · refine ⟨by omega, by omega, ?_, ht, by omega, fun x hx => by have := n1_mem hx; omega⟩
    by_cases e : p.c = []
    · rw [ht.zero e]; omega
    · have := List.length_pos_iff.2 e; omega

theorem same_yes (p q : LP) (s t : Value) (w : World) (hs : Ints w s p.c) (ht : Ints w t q.c) (h : p = q) :
    Calls Try.prog 26 #[.agg #[.int .i64 p.low, s], .agg #[.int .i64 q.low, t]] w fun e w' => e = .returned (.bool true) ∧ Below w.heap.size w w' := by
  subst h
  have ss := hs.isSl
  have st := ht.isSl
  have HS := Lib.hid hs; have HT := Lib.hid ht; clear hs ht
  go_enter Try.func26, Try.ntmps26
  go_wp2_with fail
  refine (equal_yes _ _ p.c p.c _ ((HS.out.alloc _).alloc _) ((HT.out.alloc _).alloc _) rfl).mono ?_
  rintro e u1 ⟨rfl, hb1⟩
  go_wp2_with fail
  go_ret
  exact ⟨rfl, Below.chain (((Below.refl _ _).alloc (Nat.le_refl _) _).alloc (by simp) _) hb1⟩

end Go.Proofs.Ytckopilciekfbaa


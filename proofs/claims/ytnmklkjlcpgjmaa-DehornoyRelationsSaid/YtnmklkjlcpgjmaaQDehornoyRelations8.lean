/- slices.IndexFunc and ContainsFunc over a slice of ints, whatever the function. -/
import Derived.Test.YtnmklkjlcpgjmaaQDehornoyRelations0
import Derived.Test.YtnmklkjlcpgjmaaQDehornoyRelations1
import Derived.Test.YtnmklkjlcpgjmaaQDehornoyRelations2

namespace Go.Proofs.Ytnmklkjlcpgjmaa
open Go.RowKit Go.Sl

set_option maxRecDepth 100000 in
theorem indexFunc_none (v : Value) (xs : List Int) (k : FuncId) (caps : Array Value) (hk : ∀ args w, (callFunc k args).run Try.prog w = .ok (.enter k args) w) (w : World) (hv : Ints w v xs)
    (hf : ∀ x, x ∈ xs → Calls Try.prog k (#[.int .i64 x] ++ caps) w fun e w' => e = .returned (.bool false) ∧ w = w') :
    Calls Try.prog 40 #[v, .func (.func k) #[] caps] w fun e w' => e = .returned (.int .i64 (-1)) ∧ w = w' := by
  have sv := hv.isSl
  have lv := hv.len
  have i63 := sv.i63
  rw [lv] at i63
  have HV := Lib.hid hv; clear hv
  have HF := Lib.hid hf; clear hf
  go_enter Try.func40, Try.ntmps40
  go_wp2_with fail
  go_loop [8] (fun i => ∃ k : Nat, k ≤ xs.length ∧ i = .int .i64 k) (fun i => xs.length - (intOf i).toNat)
  case atStart => exact ⟨0, Nat.zero_le _, rfl⟩
  case round =>
    obtain ⟨j, hk, rfl⟩ := hrel
    by_cases hlt : j < xs.length
    · have c1 := HV.out.cell hlt
      go_wp2_with fail
      refine (HF.out _ (nth_mem hlt)).mono ?_
      rintro e w' ⟨rfl, rfl⟩
      go_wp2_with fail
      go_round
      case rel => exact ⟨j + 1, by omega, by go_num⟩
      case measure => simp [intOf]; omega
    · go_wp2_with fail
      go_ret
      exact ⟨rfl, rfl⟩

theorem containsFunc_none (v : Value) (xs : List Int) (k : FuncId) (caps : Array Value) (hk : ∀ args w, (callFunc k args).run Try.prog w = .ok (.enter k args) w) (w : World) (hv : Ints w v xs)
    (hf : ∀ x, x ∈ xs → Calls Try.prog k (#[.int .i64 x] ++ caps) w fun e w' => e = .returned (.bool false) ∧ w = w') :
    Calls Try.prog 28 #[v, .func (.func k) #[] caps] w fun e w' => e = .returned (.bool false) ∧ w = w' := by
  have HF := Lib.hid hf; clear hf
  go_enter Try.func28, Try.ntmps28
  go_wp2_with (go_at_call 40; refine (indexFunc_none _ xs _ _ hk _ hv HF.out).mono ?_; rintro e w' ⟨rfl, rfl⟩)
  go_ret
  exact ⟨rfl, rfl⟩
end Go.Proofs.Ytnmklkjlcpgjmaa


/- slices.IndexFunc over a slice of ints, by a function that may make memory or draw. -/
import Derived.Test.YtmcecmnbdcbehaaQMarkovLocal0
import Derived.Test.YtmcecmnbdcbehaaQMarkovLocal1
import Derived.Test.YtmcecmnbdcbehaaQMarkovLocal2

namespace Go.Proofs.Ytmcecmnbdcbehaa
open Go.RowKit Go.Sl

set_option maxRecDepth 100000 in
theorem indexFuncB_none (v : Value) (xs : List Int) (k : FuncId) (caps : Array Value) (hk : ∀ args w, (callFunc k args).run Try.prog w = .ok (.enter k args) w) (w : World) (hv : Ints w v xs)
    (hf : ∀ W, Below w.heap.size w W → ∀ x, x ∈ xs → Calls Try.prog k (#[.int .i64 x] ++ caps) W fun e W' => e = .returned (.bool false) ∧ Below W.heap.size W W') :
    Calls Try.prog 171 #[v, .func (.func k) #[] caps] w fun e w' => e = .returned (.int .i64 (-1)) ∧ Below w.heap.size w w' := by
  have sv := hv.isSl
  have lv := hv.len
  have i63 := sv.i63
  rw [lv] at i63
  have HV := Lib.hid hv; clear hv
  have HF := Lib.hid hf; clear hf
  go_enter Try.func171, Try.ntmps171
  go_wp2_with fail
  go_loopw [8] (fun i wr => ∃ k : Nat, k ≤ xs.length ∧ i = .int .i64 k ∧ Below w.heap.size w wr) (fun i _ => xs.length - (intOf i).toNat)
  case atStart => exact ⟨0, Nat.zero_le _, rfl, Below.refl _ _⟩
  case round =>
    obtain ⟨j, hk, rfl, hb⟩ := hrel
    by_cases hlt : j < xs.length
    · have c1 := (HV.out.below hb).cell hlt
      have HB := Lib.hid hb; clear hb
      go_wp2_with fail
      refine (HF.out _ HB.out _ (nth_mem hlt)).mono ?_
      rintro e w' ⟨rfl, hb'⟩
      have HB' := Lib.hid hb'; clear hb'
      go_wp2_with fail
      go_roundw
      case rel => exact ⟨j + 1, by omega, by go_num, Below.chain HB.out HB'.out⟩
      case measure => simp [intOf]; omega
    · have HB := Lib.hid hb; clear hb
      go_wp2_with fail
      go_ret
      exact ⟨rfl, HB.out⟩

set_option maxRecDepth 100000 in
theorem indexFuncB_some (v : Value) (xs : List Int) (k : FuncId) (caps : Array Value) (hk : ∀ args w, (callFunc k args).run Try.prog w = .ok (.enter k args) w) (m : Nat) (w : World) (hv : Ints w v xs) (hm : m < xs.length)
    (hf : ∀ W, Below w.heap.size w W → ∀ j, j < m → Calls Try.prog k (#[.int .i64 (nth xs j)] ++ caps) W fun e W' => e = .returned (.bool false) ∧ Below W.heap.size W W')
    (hg : ∀ W, Below w.heap.size w W → Calls Try.prog k (#[.int .i64 (nth xs m)] ++ caps) W fun e W' => e = .returned (.bool true) ∧ Below W.heap.size W W') :
    Calls Try.prog 171 #[v, .func (.func k) #[] caps] w fun e w' => e = .returned (.int .i64 m) ∧ Below w.heap.size w w' := by
  have sv := hv.isSl
  have lv := hv.len
  have i63 := sv.i63
  rw [lv] at i63
  have HV := Lib.hid hv; clear hv
  have HF := Lib.hid hf; clear hf
  have HG := Lib.hid hg; clear hg
  go_enter Try.func171, Try.ntmps171
  go_wp2_with fail
  go_loopw [8] (fun i wr => ∃ k : Nat, k ≤ m ∧ i = .int .i64 k ∧ Below w.heap.size w wr) (fun i _ => xs.length - (intOf i).toNat)
  case atStart => exact ⟨0, Nat.zero_le _, rfl, Below.refl _ _⟩
  case round =>
    obtain ⟨j, hk, rfl, hb⟩ := hrel
    have hlt : j < xs.length := by omega
    have c1 := (HV.out.below hb).cell hlt
    have HB := Lib.hid hb; clear hb
    by_cases hjm : j < m
    · go_wp2_with fail
      refine (HF.out _ HB.out _ hjm).mono ?_
      rintro e w' ⟨rfl, hb'⟩
      have HB' := Lib.hid hb'; clear hb'
      go_wp2_with fail
      go_roundw
      case rel => exact ⟨j + 1, by omega, by go_num, Below.chain HB.out HB'.out⟩
      case measure => simp [intOf]; omega
    · obtain rfl : j = m := by omega
      go_wp2_with fail
      refine (HG.out _ HB.out).mono ?_
      rintro e w' ⟨rfl, hb'⟩
      have HB' := Lib.hid hb'; clear hb'
      go_wp2_with fail
      go_ret
      exact ⟨rfl, Below.chain HB.out HB'.out⟩

end Go.Proofs.Ytmcecmnbdcbehaa


/- Arguments as data: what a slice of ints or an int that came in reads as. -/
import Derived.Test.YtckopilciekfbaaQTopTorus0
import Derived.Test.YtckopilciekfbaaQTopTorus1
import Derived.Test.YtckopilciekfbaaQTopTorus2
import Derived.ProofKit
import Derived.OpenShut
namespace Go.Proofs.Ytckopilciekfbaa
open Go.ChangeShapes Go.WideShapes Go.ChangeAt Go.RowKit Go.Sl

theorem own_knob : ownKnob Try.prog.godebug = none := by kernel_rfl
theorem laid_out : laidOutB Try.prog = true := by kernel_rfl
theorem wf_bounds {n : Int} (h : (Lit.int .i64 n).wf = true) : I64 n := by
  have h1 : IntKind.i64.min = -9223372036854775808 := rfl
  have h2 : IntKind.i64.max = 9223372036854775807 := rfl
  simp only [Lit.wf, Bool.and_eq_true, decide_eq_true_eq] at h
  unfold I64
  omega

set_option maxRecDepth 100000 in
theorem arg_int {H : Type} {enc : TypeId × Value → H} {W : World} {base b0 : Nat} {v : Value} {d : DataW H} {ps : List MemPlace} (hv : Value.okWide Try.prog W .any base 3 v)
    (h : DataW.Trod enc Try.prog W b0 (fun _ => true) true 3 v d ps) : ∃ n : Int, v = .int .i64 n ∧ I64 n := by
  obtain ⟨n, rfl, _, _, wn⟩ := open_int Try.underlying3 hv h
  exact ⟨n, rfl, wf_bounds wn⟩

end Go.Proofs.Ytckopilciekfbaa


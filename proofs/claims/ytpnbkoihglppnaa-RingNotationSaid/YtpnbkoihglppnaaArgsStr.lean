/- A string that came in, as a list of bytes. -/
import Derived.Test.YtpnbkoihglppnaaArgs
import Derived.Lib.Strings
import Derived.ChangeMaps5
namespace Go.Proofs.Ytpnbkoihglppnaa
open Go.ChangeShapes Go.WideShapes Go.ChangeAt Go.RowKit Go.Sl

set_option maxRecDepth 100000 in
theorem arg_string {H : Type} {enc : TypeId × Value → H} {W : World} {base b0 : Nat} {v : Value} {d : DataW H} {ps : List MemPlace} (hv : Value.okWide Try.prog W .any base 9 v)
    (h : DataW.Trod enc Try.prog W b0 (fun _ => true) true 9 v d ps) : ∃ s : List UInt8, v = .string ⟨s.toArray⟩ := by
  obtain ⟨s, rfl, _, _, _⟩ := Go.ChangeMaps.open_string Try.underlying9 hv h
  exact ⟨s.data.toList, by rw [Lib.mk_data]⟩
end Go.Proofs.Ytpnbkoihglppnaa

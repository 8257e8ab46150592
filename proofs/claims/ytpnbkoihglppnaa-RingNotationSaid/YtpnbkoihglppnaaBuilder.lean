/- strings.Builder's WriteString and String, by the library's contracts laid at this program. -/
import Derived.Shelf.Strings.Builder1
import Derived.Test.YtpnbkoihglppnaaBase
namespace Go.Proofs.Ytpnbkoihglppnaa
open Go.Shelf Go.RowKit

def renW : Go.Shelf.Ren := ⟨fun | 166 => 120 | 240 => 142 | 276 => 149 | n => n, fun | 0 => 0 | 3 => 3 | 4 => 4 | 5 => 5 | 9 => 9 | 20 => 20 | 37 => 120 | 70 => 119 | 72 => 122 | 75 => 125 | 80 => 128 | 164 => 152 | n => n, fun | n => n⟩
theorem laysW : Go.Proofs.Lays.n166 Try.prog renW := {
  mixed := by kernel_rfl
  f166 := Try.func120.trans (congrArg some (by kernel_rfl))
  f240 := Try.func142.trans (congrArg some (by kernel_rfl))
  f276 := Try.func149.trans (congrArg some (by kernel_rfl))
  t0 := Try.underlying0
  a0 := Try.isAgg0
  z0 := Try.sizeOf0
  v0 := Try.zeroValue0
  t3 := Try.underlying3
  a3 := Try.isAgg3
  z3 := Try.sizeOf3
  v3 := Try.zeroValue3
  t4 := Try.underlying4
  a4 := Try.isAgg4
  z4 := Try.sizeOf4
  v4 := Try.zeroValue4
  t9 := Try.underlying9
  a9 := Try.isAgg9
  z9 := Try.sizeOf9
  v9 := Try.zeroValue9
  t20 := Try.underlying20
  a20 := Try.isAgg20
  z20 := Try.sizeOf20
  v20 := Try.zeroValue20
  t37 := Try.underlying120
  a37 := Try.isAgg120
  z37 := Try.sizeOf120
  v37 := Try.zeroValue120
  t70 := Try.underlying119
  a70 := Try.isAgg119
  z70 := Try.sizeOf119
  v70 := Try.zeroValue119
  t72 := Try.underlying122
  a72 := Try.isAgg122
  z72 := Try.sizeOf122
  v72 := Try.zeroValue122
  t75 := Try.underlying125
  a75 := Try.isAgg125
  z75 := Try.sizeOf125
  v75 := Try.zeroValue125
  t164 := Try.underlying152
  a164 := Try.isAgg152
  z164 := Try.sizeOf152
  v164 := Try.zeroValue152 }
theorem extraW : Builder.Extra Try.prog renW := {
  sizeBuilder := by kernel_rfl
  liesBuilder := by kernel_rfl
  t5 := Try.underlying5
  a5 := Try.isAgg5
  z5 := Try.sizeOf5
  v5 := Try.zeroValue5
  infoByte := by kernel_rfl
  cellsByte := by kernel_rfl
  sizeByte := by kernel_rfl
  neB5 := by decide }
theorem writeString_calls (B b : Nat) (bs : List Value) (s : ByteArray) (w : World) (h : Lib.IsBuilder 122 5 B b bs w) (hlen : bs.length + s.size ≤ 140737488355328) (hBw : B ≤ w.heap.size) :
    Calls Try.prog 120 #[.pointer (some ⟨b, 0, none⟩), .string s] w fun e w' => e = .returned (.tuple #[.int .i64 s.size, .nilIface]) ∧ (Lib.BuilderAt 122 5 B b (.pointer (some ⟨b, 0, none⟩)) (bs ++ Lib.strCells s) w' ∧ Below B w w') := Any.Builder_WriteString laysW extraW B b bs s w h hlen hBw

def renS : Go.Shelf.Ren := ⟨fun | 169 => 121 | n => n, fun | 70 => 119 | 9 => 9 | 0 => 0 | 72 => 122 | 37 => 120 | 127 => 147 | 3 => 3 | 5 => 5 | n => n, fun | n => n⟩
theorem laysS : Go.Proofs.Lays.n169 Try.prog renS := {
  mixed := by kernel_rfl
  f169 := Try.func121.trans (congrArg some (by kernel_rfl))
  t0 := Try.underlying0
  a0 := Try.isAgg0
  z0 := Try.sizeOf0
  v0 := Try.zeroValue0
  t3 := Try.underlying3
  a3 := Try.isAgg3
  z3 := Try.sizeOf3
  v3 := Try.zeroValue3
  t9 := Try.underlying9
  a9 := Try.isAgg9
  z9 := Try.sizeOf9
  v9 := Try.zeroValue9
  t37 := Try.underlying120
  a37 := Try.isAgg120
  z37 := Try.sizeOf120
  v37 := Try.zeroValue120
  t70 := Try.underlying119
  a70 := Try.isAgg119
  z70 := Try.sizeOf119
  v70 := Try.zeroValue119
  t72 := Try.underlying122
  a72 := Try.isAgg122
  z72 := Try.sizeOf122
  v72 := Try.zeroValue122
  t127 := Try.underlying147
  a127 := Try.isAgg147
  z127 := Try.sizeOf147
  v127 := Try.zeroValue147 }
theorem extraS : Builder.Extra Try.prog renS := {
  sizeBuilder := by kernel_rfl
  liesBuilder := by kernel_rfl
  t5 := Try.underlying5
  a5 := Try.isAgg5
  z5 := Try.sizeOf5
  v5 := Try.zeroValue5
  infoByte := by kernel_rfl
  cellsByte := by kernel_rfl
  sizeByte := by kernel_rfl
  neB5 := by decide }
theorem builderString_calls (B b : Nat) (l : List UInt8) (w : World) (h : Lib.IsBuilder 122 5 B b (Lib.byteCells l) w) (hBw : B ≤ w.heap.size) :
    Calls Try.prog 121 #[.pointer (some ⟨b, 0, none⟩)] w fun e w' => e = .returned (.string ⟨l.toArray⟩) ∧ Below B w w' := Any.Builder_String_any laysS extraS B b l w h hBw
end Go.Proofs.Ytpnbkoihglppnaa

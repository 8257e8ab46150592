/- strings.Builder's WriteString and String, by the library's contracts laid at this program. -/
import Derived.Shelf.Strings.Builder1
import Derived.Test.YtdmogoeafjpphaaBase
namespace Go.Proofs.Ytdmogoeafjpphaa
open Go.Shelf Go.RowKit

def renW : Go.Shelf.Ren := ⟨fun | 166 => 166 | 240 => 172 | 276 => 176 | n => n, fun | 0 => 0 | 3 => 3 | 4 => 4 | 5 => 5 | 9 => 9 | 20 => 20 | 37 => 174 | 70 => 173 | 72 => 176 | 75 => 179 | 80 => 182 | 164 => 186 | n => n, fun | n => n⟩
theorem laysW : Go.Proofs.Lays.n166 Try.prog renW := {
  mixed := by kernel_rfl
  f166 := Try.func166.trans (congrArg some (by kernel_rfl))
  f240 := Try.func172.trans (congrArg some (by kernel_rfl))
  f276 := Try.func176.trans (congrArg some (by kernel_rfl))
  t0 := Try.underlying0
  a0 := Try.isAgg0
  z0 := Try.sizeOf0
  v0 := Try.zeroValue0
  t3 := Try.underlying3
  a3 := Try.isAgg3
  z3 := Try.sizeOf3
  v3 := Try.zeroValue3
  t4 := Try.underlying4
  a4 := Try.isAgg4
  z4 := Try.sizeOf4
  v4 := Try.zeroValue4
  t9 := Try.underlying9
  a9 := Try.isAgg9
  z9 := Try.sizeOf9
  v9 := Try.zeroValue9
  t20 := Try.underlying20
  a20 := Try.isAgg20
  z20 := Try.sizeOf20
  v20 := Try.zeroValue20
  t37 := Try.underlying174
  a37 := Try.isAgg174
  z37 := Try.sizeOf174
  v37 := Try.zeroValue174
  t70 := Try.underlying173
  a70 := Try.isAgg173
  z70 := Try.sizeOf173
  v70 := Try.zeroValue173
  t72 := Try.underlying176
  a72 := Try.isAgg176
  z72 := Try.sizeOf176
  v72 := Try.zeroValue176
  t75 := Try.underlying179
  a75 := Try.isAgg179
  z75 := Try.sizeOf179
  v75 := Try.zeroValue179
  t164 := Try.underlying186
  a164 := Try.isAgg186
  z164 := Try.sizeOf186
  v164 := Try.zeroValue186 }
theorem extraW : Builder.Extra Try.prog renW := {
  sizeBuilder := by kernel_rfl
  liesBuilder := by kernel_rfl
  t5 := Try.underlying5
  a5 := Try.isAgg5
  z5 := Try.sizeOf5
  v5 := Try.zeroValue5
  infoByte := by kernel_rfl
  cellsByte := by kernel_rfl
  sizeByte := by kernel_rfl
  neB5 := by decide }
theorem writeString_calls (B b : Nat) (bs : List Value) (s : ByteArray) (w : World) (h : Lib.IsBuilder 176 5 B b bs w) (hlen : bs.length + s.size ≤ 140737488355328) (hBw : B ≤ w.heap.size) :
    Calls Try.prog 166 #[.pointer (some ⟨b, 0, none⟩), .string s] w fun e w' => e = .returned (.tuple #[.int .i64 s.size, .nilIface]) ∧ (Lib.BuilderAt 176 5 B b (.pointer (some ⟨b, 0, none⟩)) (bs ++ Lib.strCells s) w' ∧ Below B w w') := Any.Builder_WriteString laysW extraW B b bs s w h hlen hBw

def renS : Go.Shelf.Ren := ⟨fun | 169 => 167 | n => n, fun | 70 => 173 | 9 => 9 | 0 => 0 | 72 => 176 | 37 => 174 | 127 => 183 | 3 => 3 | 5 => 5 | n => n, fun | n => n⟩
theorem laysS : Go.Proofs.Lays.n169 Try.prog renS := {
  mixed := by kernel_rfl
  f169 := Try.func167.trans (congrArg some (by kernel_rfl))
  t0 := Try.underlying0
  a0 := Try.isAgg0
  z0 := Try.sizeOf0
  v0 := Try.zeroValue0
  t3 := Try.underlying3
  a3 := Try.isAgg3
  z3 := Try.sizeOf3
  v3 := Try.zeroValue3
  t9 := Try.underlying9
  a9 := Try.isAgg9
  z9 := Try.sizeOf9
  v9 := Try.zeroValue9
  t37 := Try.underlying174
  a37 := Try.isAgg174
  z37 := Try.sizeOf174
  v37 := Try.zeroValue174
  t70 := Try.underlying173
  a70 := Try.isAgg173
  z70 := Try.sizeOf173
  v70 := Try.zeroValue173
  t72 := Try.underlying176
  a72 := Try.isAgg176
  z72 := Try.sizeOf176
  v72 := Try.zeroValue176
  t127 := Try.underlying183
  a127 := Try.isAgg183
  z127 := Try.sizeOf183
  v127 := Try.zeroValue183 }
theorem extraS : Builder.Extra Try.prog renS := {
  sizeBuilder := by kernel_rfl
  liesBuilder := by kernel_rfl
  t5 := Try.underlying5
  a5 := Try.isAgg5
  z5 := Try.sizeOf5
  v5 := Try.zeroValue5
  infoByte := by kernel_rfl
  cellsByte := by kernel_rfl
  sizeByte := by kernel_rfl
  neB5 := by decide }
theorem builderString_calls (B b : Nat) (l : List UInt8) (w : World) (h : Lib.IsBuilder 176 5 B b (Lib.byteCells l) w) (hBw : B ≤ w.heap.size) :
    Calls Try.prog 167 #[.pointer (some ⟨b, 0, none⟩)] w fun e w' => e = .returned (.string ⟨l.toArray⟩) ∧ Below B w w' := Any.Builder_String_any laysS extraS B b l w h hBw
end Go.Proofs.Ytdmogoeafjpphaa

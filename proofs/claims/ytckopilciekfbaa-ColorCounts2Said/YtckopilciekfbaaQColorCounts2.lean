/- ColorCounts2 holds: for every input the call returns true, and its arguments read as before. -/
import Derived.Test.YtckopilciekfbaaQColorCounts20
import Derived.Test.YtckopilciekfbaaQColorCounts21
import Derived.Test.YtckopilciekfbaaQColorCounts22
import Derived.Test.YtckopilciekfbaaQColorCounts23
import Derived.Test.YtckopilciekfbaaQColorCounts24
import Derived.Test.YtckopilciekfbaaQColorCounts25
import Derived.Test.YtckopilciekfbaaQColorCounts26
import Derived.Test.YtckopilciekfbaaQColorCounts27
import Derived.Test.YtckopilciekfbaaQColorCounts28
import Derived.Test.YtckopilciekfbaaQColorCounts29
import Derived.Test.YtckopilciekfbaaQColorCounts210
import Derived.Test.YtckopilciekfbaaQColorCounts211
import Derived.Test.YtckopilciekfbaaQColorCounts212
import Derived.Test.YtckopilciekfbaaQColorCounts213
import Derived.Test.YtckopilciekfbaaQColorCounts214
import Derived.Test.YtckopilciekfbaaQColorCounts215
import Derived.Test.YtckopilciekfbaaQColorCounts216
import Derived.Test.YtckopilciekfbaaQColorCounts217
import Derived.Test.YtckopilciekfbaaQColorCounts218
import Derived.Test.YtckopilciekfbaaQColorCounts219
import Derived.Test.YtckopilciekfbaaQColorCounts220
import Derived.Test.YtckopilciekfbaaQColorCounts221
import Derived.Test.YtckopilciekfbaaQColorCounts222
import Derived.Test.YtckopilciekfbaaQColorCounts223
import Derived.Test.YtckopilciekfbaaQColorCounts224
import Derived.Test.YtckopilciekfbaaQColorCounts225
import Derived.Test.YtckopilciekfbaaQColorCounts226
import Derived.Test.YtckopilciekfbaaQColorCounts227
import Derived.Test.YtckopilciekfbaaQColorCounts228
import Derived.Test.YtckopilciekfbaaQColorCounts229
import Derived.Test.YtckopilciekfbaaQColorCounts230
import Derived.Test.YtckopilciekfbaaQColorCounts231
import Derived.Test.YtckopilciekfbaaQColorCounts232
import Derived.Test.YtckopilciekfbaaQColorCounts233
import Derived.Test.YtckopilciekfbaaQColorCounts234
import Derived.Test.YtckopilciekfbaaQColorCounts235
import Derived.Test.YtckopilciekfbaaQColorCounts236
import Derived.Test.YtckopilciekfbaaQColorCounts237
import Derived.Test.YtckopilciekfbaaQColorCounts238
import Derived.Test.YtckopilciekfbaaQColorCounts239
import Derived.Test.YtckopilciekfbaaQColorCounts240
import Derived.Test.YtckopilciekfbaaQColorCounts241
import Derived.Test.YtckopilciekfbaaQColorCounts242
import Derived.Test.YtckopilciekfbaaQColorCounts243
import Derived.Test.YtckopilciekfbaaQColorCounts244
import Derived.Test.YtckopilciekfbaaQColorCounts245
import Derived.Test.YtckopilciekfbaaQColorCounts246
import Derived.Test.YtckopilciekfbaaQColorCounts247
import Derived.Test.YtckopilciekfbaaQColorCounts248
import Derived.Test.YtckopilciekfbaaQColorCounts249
import Derived.Test.YtckopilciekfbaaQColorCounts250
import Derived.Test.YtckopilciekfbaaQColorCounts251
import Derived.Test.YtckopilciekfbaaQColorCounts252
import Derived.Shelf.Strings.Builder1
import Derived.Deep.RegionWith
import Derived.RangeFuncNested
import Derived.RangeFuncCalls
import Derived.OrdersIn
import Derived.OrdersHeld
import Derived.Deep.RegionHeld
import Derived.Deep.CutRange
import Derived.RangeFuncBound
import Derived.RangeFuncLeaves
import Derived.RangeFuncBox
import Derived.Shelf.Abstract
import Derived.Shelf.RegionOpen
import Derived.OwnWalkIn
import Derived.TacticsInMore
import Derived.LoopNIn
import Derived.LoopIn
import Derived.Maps.AppendAt
import Derived.Lib.SliceRun
import Derived.Lib.AppendZeros
import Derived.Lib.Walk
import Derived.Deep.RegionHeld3
namespace Go.Proofs.Ytckopilciekfbaa
open Go Go.ChangeShapes Go.WideShapes Go.ChangeAt Go.RowKit Go.Sl
set_option maxRecDepth 100000 in
theorem colorCounts2_lifted (os : Os) (started : os.Started) (H : Type) (enc : TypeId × Value → H) :
    ReturnsInHanded {} Try.checked os 6 .any (Rows.colorCounts2Spec.pre6 enc Try.prog Try.f6 Rows.colorCounts2Row.domain false) (Rows.colorCounts2Spec.post enc Try.prog Try.f6 false true false false) := by
  refine returnsInHanded_of_change (C := Try.checked) own_knob started (by kernel_rfl) Try.func6
    (ChangeSpec.witness6 (enc := enc) (C := Try.checked) false ⟨#[], #[.int .i64 0, .slice none 0 0, .int .i64 0], []⟩ 8 (by kernel_rfl) (by kernel_rfl) (by kernel_rfl) (by kernel_rfl)) ?_
  intro W base args ds gs before hval0 hW hcnd _
  have hval : ∀ (j : Nat) t v, Try.f6.params[j]? = some t → args[j]? = some v → Value.okWide Try.prog W .any base t v := hval0
  have hW' := hW
  obtain ⟨p, q, hA0, hV, rfl, _, _⟩ := hW
  have hA : DataW.TrodAll enc Try.prog W 0 (fun _ => true) true Try.f6.params.toList args.toList ds p := hA0
  rw [Try.params6] at hA hval
  obtain ⟨args, rfl⟩ : ∃ l : List Value, args = l.toArray := ⟨args.toList, rfl⟩
  obtain ⟨v0, vs0, d0, ds0, p0, q0, rfl, rfl, rfl, h0, r0⟩ := trodAll_cons hA
  obtain ⟨v1, vs1, d1, ds1, p1, q1, rfl, rfl, rfl, h1, r1⟩ := trodAll_cons r0
  obtain ⟨v2, vs2, d2, ds2, p2, q2, rfl, rfl, rfl, h2, r2⟩ := trodAll_cons r1
  obtain ⟨rfl, rfl, rfl⟩ := trodAll_nil r2
  obtain ⟨rfl, rfl⟩ := trodVars_none hV
  clear hA0 hval0
  have hlt : ∀ x ∈ (p0 ++ (p1 ++ (p2 ++ []))), x.block < W.heap.size := fun x hx => by simpa using hW'.lt x (by simpa using hx)
  obtain ⟨n0, en0, hn0⟩ := arg_int (hval 0 3 v0 rfl rfl) h0
  obtain ⟨xs1, hx1, hr1⟩ := arg_ints (hval 1 22 v1 rfl rfl) h1
  obtain ⟨n2, en2, hn2⟩ := arg_int (hval 2 3 v2 rfl rfl) h2
  have hk0 : ∀ (W' : World), Below W.heap.size W W' → DataW.Trod enc Try.prog W' 0 (fun b => decide (b < W.heap.size)) true 3 v0 d0 p0 := fun W' hb => Below.trod laid_out (by kernel_rfl) (of_decide_eq_true (by kernel_rfl)) h0 hb (fun x hx => hlt x (by simp [hx]))
  have hk1 : ∀ (W' : World), Below W.heap.size W W' → DataW.Trod enc Try.prog W' 0 (fun b => decide (b < W.heap.size)) true 22 v1 d1 p1 := fun W' hb => Below.trod laid_out (by kernel_rfl) (of_decide_eq_true (by kernel_rfl)) h1 hb (fun x hx => hlt x (by simp [hx]))
  have hk2 : ∀ (W' : World), Below W.heap.size W W' → DataW.Trod enc Try.prog W' 0 (fun b => decide (b < W.heap.size)) true 3 v2 d2 p2 := fun W' hb => Below.trod laid_out (by kernel_rfl) (of_decide_eq_true (by kernel_rfl)) h2 hb (fun x hx => hlt x (by simp [hx]))
  subst en0
  subst en2
  refine (colorCounts2_true n0 hn0 v1 xs1 hx1 hr1 n2 hn2 W).mono fun e W' ⟨he, hb⟩ => ?_
  subst he
  refine ⟨_, rfl, _, _, _, [], (p0 ++ (p1 ++ (p2 ++ []))), [], hW', ?_, ?_, rfl, hb.frame _, fun h => by cases h⟩
  · exact trodAll_mk1 (shut_bool Try.underlying4 true)
  · exact trodAll_cons_mk (hk0 _ hb) (trodAll_cons_mk (hk1 _ hb) (trodAll_cons_mk (hk2 _ hb) (trodAll_mk0)))

theorem colorCounts2_holds : Rows.ColorCounts2Said :=
  OpenClaim.holds_of_wide 6 Try.f6 rfl rfl rfl rfl rfl rfl rfl ⟨rfl, rfl, rfl, rfl, rfl⟩ rfl rfl rfl rfl rfl (by kernel_rfl) Try.func6 (by kernel_rfl)
    (of_decide_eq_true (by kernel_rfl)) (by unfold Func.isWrapper; rw [if_neg (of_decide_eq_false (by kernel_rfl))]; exact ⟨rfl, rfl⟩)
    (fun os started H enc _ => colorCounts2_lifted os started H enc)

end Go.Proofs.Ytckopilciekfbaa


/- TopTorus holds: for every input the call returns true, and its arguments read as before. -/
import Derived.Test.YtckopilciekfbaaQTopTorus0
import Derived.Test.YtckopilciekfbaaQTopTorus1
import Derived.Test.YtckopilciekfbaaQTopTorus2
import Derived.Test.YtckopilciekfbaaQTopTorus3
import Derived.Test.YtckopilciekfbaaQTopTorus4
import Derived.Test.YtckopilciekfbaaQTopTorus5
import Derived.Test.YtckopilciekfbaaQTopTorus6
import Derived.Test.YtckopilciekfbaaQTopTorus7
import Derived.Test.YtckopilciekfbaaQTopTorus8
import Derived.Test.YtckopilciekfbaaQTopTorus9
import Derived.Test.YtckopilciekfbaaQTopTorus10
import Derived.Test.YtckopilciekfbaaQTopTorus11
import Derived.Test.YtckopilciekfbaaQTopTorus12
import Derived.Test.YtckopilciekfbaaQTopTorus13
import Derived.Test.YtckopilciekfbaaQTopTorus14
import Derived.Test.YtckopilciekfbaaQTopTorus15
import Derived.Test.YtckopilciekfbaaQTopTorus16
import Derived.Test.YtckopilciekfbaaQTopTorus17
import Derived.Test.YtckopilciekfbaaQTopTorus18
import Derived.Test.YtckopilciekfbaaQTopTorus19
import Derived.Test.YtckopilciekfbaaQTopTorus20
import Derived.Test.YtckopilciekfbaaQTopTorus21
import Derived.Test.YtckopilciekfbaaQTopTorus22
import Derived.Test.YtckopilciekfbaaQTopTorus23
import Derived.Test.YtckopilciekfbaaQTopTorus24
import Derived.Test.YtckopilciekfbaaQTopTorus25
import Derived.Test.YtckopilciekfbaaQTopTorus26
import Derived.Test.YtckopilciekfbaaQTopTorus27
import Derived.Test.YtckopilciekfbaaQTopTorus28
import Derived.Test.YtckopilciekfbaaQTopTorus29
import Derived.Test.YtckopilciekfbaaQTopTorus30
import Derived.Test.YtckopilciekfbaaQTopTorus31
import Derived.Test.YtckopilciekfbaaQTopTorus32
import Derived.Test.YtckopilciekfbaaQTopTorus33
import Derived.Test.YtckopilciekfbaaQTopTorus34
import Derived.Test.YtckopilciekfbaaQTopTorus35
import Derived.Test.YtckopilciekfbaaQTopTorus36
import Derived.Test.YtckopilciekfbaaQTopTorus37
import Derived.Test.YtckopilciekfbaaQTopTorus38
import Derived.Test.YtckopilciekfbaaQTopTorus39
import Derived.Test.YtckopilciekfbaaQTopTorus40
import Derived.Test.YtckopilciekfbaaQTopTorus41
import Derived.Test.YtckopilciekfbaaQTopTorus42
import Derived.Test.YtckopilciekfbaaQTopTorus43
import Derived.Test.YtckopilciekfbaaQTopTorus44
import Derived.Test.YtckopilciekfbaaQTopTorus45
import Derived.Test.YtckopilciekfbaaQTopTorus46
import Derived.Test.YtckopilciekfbaaQTopTorus47
import Derived.Test.YtckopilciekfbaaQTopTorus48
import Derived.Test.YtckopilciekfbaaQTopTorus49
import Derived.Test.YtckopilciekfbaaQTopTorus50
import Derived.Test.YtckopilciekfbaaQTopTorus51
import Derived.Test.YtckopilciekfbaaQTopTorus52
import Derived.Test.YtckopilciekfbaaQTopTorus53
import Derived.Shelf.Strings.Builder1
import Derived.RangeFuncNested
import Derived.RangeFuncBound
import Derived.RangeFuncCalls
import Derived.RangeFuncLeaves
import Derived.RangeFuncBox
import Derived.Shelf.Abstract
import Derived.Shelf.RegionOpen
import Derived.OwnWalkIn
import Derived.TacticsInMore
import Derived.LoopNIn
import Derived.LoopIn
import Derived.Maps.AppendAt
import Derived.OrdersIn
import Derived.OrdersHeld
import Derived.Deep.RegionHeld
import Derived.Lib.SliceRun
namespace Go.Proofs.Ytckopilciekfbaa
open Go Go.ChangeShapes Go.WideShapes Go.ChangeAt Go.RowKit Go.Sl
set_option maxRecDepth 100000 in
theorem topTorus_lifted (os : Os) (started : os.Started) (H : Type) (enc : TypeId × Value → H) :
    ReturnsInHanded {} Try.checked os 5 .any (Rows.topTorusSpec.pre6 enc Try.prog Try.f5 Rows.topTorusRow.domain false) (Rows.topTorusSpec.post enc Try.prog Try.f5 false true false false) := by
  refine returnsInHanded_of_change (C := Try.checked) own_knob started (by kernel_rfl) Try.func5
    (ChangeSpec.witness6 (enc := enc) (C := Try.checked) false ⟨#[], #[.int .i64 0, .int .i64 0], []⟩ 8 (by kernel_rfl) (by kernel_rfl) (by kernel_rfl) (by kernel_rfl)) ?_
  intro W base args ds gs before hval0 hW hcnd _
  have hval : ∀ (j : Nat) t v, Try.f5.params[j]? = some t → args[j]? = some v → Value.okWide Try.prog W .any base t v := hval0
  have hW' := hW
  obtain ⟨p, q, hA0, hV, rfl, _, _⟩ := hW
  have hA : DataW.TrodAll enc Try.prog W 0 (fun _ => true) true Try.f5.params.toList args.toList ds p := hA0
  rw [Try.params5] at hA hval
  obtain ⟨args, rfl⟩ : ∃ l : List Value, args = l.toArray := ⟨args.toList, rfl⟩
  obtain ⟨v0, vs0, d0, ds0, p0, q0, rfl, rfl, rfl, h0, r0⟩ := trodAll_cons hA
  obtain ⟨v1, vs1, d1, ds1, p1, q1, rfl, rfl, rfl, h1, r1⟩ := trodAll_cons r0
  obtain ⟨rfl, rfl, rfl⟩ := trodAll_nil r1
  obtain ⟨rfl, rfl⟩ := trodVars_none hV
  clear hA0 hval0
  have hlt : ∀ x ∈ (p0 ++ (p1 ++ [])), x.block < W.heap.size := fun x hx => by simpa using hW'.lt x (by simpa using hx)
  obtain ⟨n0, en0, hn0⟩ := arg_int (hval 0 3 v0 rfl rfl) h0
  obtain ⟨n1, en1, hn1⟩ := arg_int (hval 1 3 v1 rfl rfl) h1
  have hk0 : ∀ (W' : World), Below W.heap.size W W' → DataW.Trod enc Try.prog W' 0 (fun b => decide (b < W.heap.size)) true 3 v0 d0 p0 := fun W' hb => Below.trod laid_out (by kernel_rfl) (of_decide_eq_true (by kernel_rfl)) h0 hb (fun x hx => hlt x (by simp [hx]))
  have hk1 : ∀ (W' : World), Below W.heap.size W W' → DataW.Trod enc Try.prog W' 0 (fun b => decide (b < W.heap.size)) true 3 v1 d1 p1 := fun W' hb => Below.trod laid_out (by kernel_rfl) (of_decide_eq_true (by kernel_rfl)) h1 hb (fun x hx => hlt x (by simp [hx]))
  subst en0
  subst en1
  refine (topTorus_true n0 hn0 n1 hn1 W).mono fun e W' ⟨he, hb⟩ => ?_
  subst he
  refine ⟨_, rfl, _, _, _, [], (p0 ++ (p1 ++ [])), [], hW', ?_, ?_, rfl, hb.frame _, fun h => by cases h⟩
  · exact trodAll_mk1 (shut_bool Try.underlying4 true)
  · exact trodAll_cons_mk (hk0 _ hb) (trodAll_cons_mk (hk1 _ hb) (trodAll_mk0))

theorem topTorus_holds : Rows.TopTorusSaid :=
  OpenClaim.holds_of_wide 5 Try.f5 rfl rfl rfl rfl rfl rfl rfl ⟨rfl, rfl, rfl, rfl, rfl⟩ rfl rfl rfl rfl rfl (by kernel_rfl) Try.func5 (by kernel_rfl)
    (of_decide_eq_true (by kernel_rfl)) (by unfold Func.isWrapper; rw [if_neg (of_decide_eq_false (by kernel_rfl))]; exact ⟨rfl, rfl⟩)
    (fun os started H enc _ => topTorus_lifted os started H enc)

end Go.Proofs.Ytckopilciekfbaa


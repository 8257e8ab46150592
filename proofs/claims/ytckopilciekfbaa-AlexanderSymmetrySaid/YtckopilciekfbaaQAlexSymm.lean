/- AlexanderSymmetry holds: for every input the call returns true, and its arguments read as before. -/
import Derived.Test.YtckopilciekfbaaQAlexSymm0
import Derived.Test.YtckopilciekfbaaQAlexSymm1
import Derived.Test.YtckopilciekfbaaQAlexSymm2
import Derived.Test.YtckopilciekfbaaQAlexSymm3
import Derived.Test.YtckopilciekfbaaQAlexSymm4
import Derived.Test.YtckopilciekfbaaQAlexSymm5
import Derived.Test.YtckopilciekfbaaQAlexSymm6
import Derived.Test.YtckopilciekfbaaQAlexSymm7
import Derived.Test.YtckopilciekfbaaQAlexSymm8
import Derived.Test.YtckopilciekfbaaQAlexSymm9
import Derived.Test.YtckopilciekfbaaQAlexSymm10
import Derived.Test.YtckopilciekfbaaQAlexSymm11
import Derived.Test.YtckopilciekfbaaQAlexSymm12
import Derived.Test.YtckopilciekfbaaQAlexSymm13
import Derived.Test.YtckopilciekfbaaQAlexSymm14
import Derived.Test.YtckopilciekfbaaQAlexSymm15
import Derived.Test.YtckopilciekfbaaQAlexSymm16
import Derived.Test.YtckopilciekfbaaQAlexSymm17
import Derived.Test.YtckopilciekfbaaQAlexSymm18
import Derived.Test.YtckopilciekfbaaQAlexSymm19
import Derived.Test.YtckopilciekfbaaQAlexSymm20
import Derived.Test.YtckopilciekfbaaQAlexSymm21
import Derived.Test.YtckopilciekfbaaQAlexSymm22
import Derived.Test.YtckopilciekfbaaQAlexSymm23
import Derived.Test.YtckopilciekfbaaQAlexSymm24
import Derived.Test.YtckopilciekfbaaQAlexSymm25
import Derived.Test.YtckopilciekfbaaQAlexSymm26
import Derived.Test.YtckopilciekfbaaQAlexSymm27
import Derived.Test.YtckopilciekfbaaQAlexSymm28
import Derived.Test.YtckopilciekfbaaQAlexSymm29
import Derived.Test.YtckopilciekfbaaQAlexSymm30
import Derived.Test.YtckopilciekfbaaQAlexSymm31
import Derived.Test.YtckopilciekfbaaQAlexSymm32
import Derived.Test.YtckopilciekfbaaQAlexSymm33
import Derived.Test.YtckopilciekfbaaQAlexSymm34
import Derived.Test.YtckopilciekfbaaQAlexSymm35
import Derived.Test.YtckopilciekfbaaQAlexSymm36
import Derived.Test.YtckopilciekfbaaQAlexSymm37
import Derived.Test.YtckopilciekfbaaQAlexSymm38
import Derived.Test.YtckopilciekfbaaQAlexSymm39
import Derived.Test.YtckopilciekfbaaQAlexSymm40
import Derived.Test.YtckopilciekfbaaQAlexSymm41
import Derived.Test.YtckopilciekfbaaQAlexSymm42
import Derived.Test.YtckopilciekfbaaQAlexSymm43
import Derived.Test.YtckopilciekfbaaQAlexSymm44
import Derived.Test.YtckopilciekfbaaQAlexSymm45
import Derived.Test.YtckopilciekfbaaQAlexSymm46
import Derived.Test.YtckopilciekfbaaQAlexSymm47
import Derived.Test.YtckopilciekfbaaQAlexSymm48
import Derived.Test.YtckopilciekfbaaQAlexSymm49
import Derived.Test.YtckopilciekfbaaQAlexSymm50
import Derived.Test.YtckopilciekfbaaQAlexSymm51
import Derived.Test.YtckopilciekfbaaQAlexSymm52
import Derived.RangeFuncNested
import Derived.RangeFuncBound
import Derived.RangeFuncCalls
import Derived.RangeFuncLeaves
import Derived.RangeFuncBox
import Derived.Shelf.Abstract
import Derived.Shelf.RegionOpen
import Derived.OwnWalkIn
import Derived.TacticsInMore
import Derived.LoopNIn
import Derived.LoopIn
import Derived.Maps.AppendAt
import Derived.Lib.AppendZeros
import Derived.Lib.Walk
import Derived.Lib.SliceRun
import Derived.OrdersIn
import Derived.OrdersHeld
import Derived.Deep.RegionHeld
namespace Go.Proofs.Ytckopilciekfbaa
open Go Go.ChangeShapes Go.WideShapes Go.ChangeAt Go.RowKit Go.Sl
set_option maxRecDepth 100000 in
theorem alexanderSymmetry_lifted (os : Os) (started : os.Started) (H : Type) (enc : TypeId × Value → H) :
    ReturnsInHanded {} Try.checked os 4 .any (Rows.alexanderSymmetrySpec.pre6 enc Try.prog Try.f4 Rows.alexanderSymmetryRow.domain false) (Rows.alexanderSymmetrySpec.post enc Try.prog Try.f4 false true false false) := by
  refine returnsInHanded_of_change (C := Try.checked) own_knob started (by kernel_rfl) Try.func4
    (ChangeSpec.witness6 (enc := enc) (C := Try.checked) false ⟨#[], #[.int .i64 0, .slice none 0 0], []⟩ 8 (by kernel_rfl) (by kernel_rfl) (by kernel_rfl) (by kernel_rfl)) ?_
  intro W base args ds gs before hval0 hW hcnd _
  have hval : ∀ (j : Nat) t v, Try.f4.params[j]? = some t → args[j]? = some v → Value.okWide Try.prog W .any base t v := hval0
  have hW' := hW
  obtain ⟨p, q, hA0, hV, rfl, _, _⟩ := hW
  have hA : DataW.TrodAll enc Try.prog W 0 (fun _ => true) true Try.f4.params.toList args.toList ds p := hA0
  rw [Try.params4] at hA hval
  obtain ⟨args, rfl⟩ : ∃ l : List Value, args = l.toArray := ⟨args.toList, rfl⟩
  obtain ⟨v0, vs0, d0, ds0, p0, q0, rfl, rfl, rfl, h0, r0⟩ := trodAll_cons hA
  obtain ⟨v1, vs1, d1, ds1, p1, q1, rfl, rfl, rfl, h1, r1⟩ := trodAll_cons r0
  obtain ⟨rfl, rfl, rfl⟩ := trodAll_nil r1
  obtain ⟨rfl, rfl⟩ := trodVars_none hV
  clear hA0 hval0
  have hlt : ∀ x ∈ (p0 ++ (p1 ++ [])), x.block < W.heap.size := fun x hx => by simpa using hW'.lt x (by simpa using hx)
  obtain ⟨n0, en0, hn0⟩ := arg_int (hval 0 3 v0 rfl rfl) h0
  obtain ⟨xs1, hx1, hr1⟩ := arg_ints (hval 1 22 v1 rfl rfl) h1
  have hk0 : ∀ (W' : World), Below W.heap.size W W' → DataW.Trod enc Try.prog W' 0 (fun b => decide (b < W.heap.size)) true 3 v0 d0 p0 := fun W' hb => Below.trod laid_out (by kernel_rfl) (of_decide_eq_true (by kernel_rfl)) h0 hb (fun x hx => hlt x (by simp [hx]))
  have hk1 : ∀ (W' : World), Below W.heap.size W W' → DataW.Trod enc Try.prog W' 0 (fun b => decide (b < W.heap.size)) true 22 v1 d1 p1 := fun W' hb => Below.trod laid_out (by kernel_rfl) (of_decide_eq_true (by kernel_rfl)) h1 hb (fun x hx => hlt x (by simp [hx]))
  subst en0
  refine (alexanderSymmetry_true n0 hn0 v1 xs1 hx1 hr1 W).mono fun e W' ⟨he, hb⟩ => ?_
  subst he
  refine ⟨_, rfl, _, _, _, [], (p0 ++ (p1 ++ [])), [], hW', ?_, ?_, rfl, hb.frame _, fun h => by cases h⟩
  · exact trodAll_mk1 (shut_bool Try.underlying4 true)
  · exact trodAll_cons_mk (hk0 _ hb) (trodAll_cons_mk (hk1 _ hb) (trodAll_mk0))

theorem alexanderSymmetry_holds : Rows.AlexanderSymmetrySaid :=
  OpenClaim.holds_of_wide 4 Try.f4 rfl rfl rfl rfl rfl rfl rfl ⟨rfl, rfl, rfl, rfl, rfl⟩ rfl rfl rfl rfl rfl (by kernel_rfl) Try.func4 (by kernel_rfl)
    (of_decide_eq_true (by kernel_rfl)) (by unfold Func.isWrapper; rw [if_neg (of_decide_eq_false (by kernel_rfl))]; exact ⟨rfl, rfl⟩)
    (fun os started H enc _ => alexanderSymmetry_lifted os started H enc)

end Go.Proofs.Ytckopilciekfbaa


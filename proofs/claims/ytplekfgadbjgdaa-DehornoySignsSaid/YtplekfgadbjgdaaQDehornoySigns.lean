/- DehornoySigns holds: for every input the call returns true, and its arguments read as before. -/
import Derived.Test.YtplekfgadbjgdaaQDehornoySigns0
import Derived.Test.YtplekfgadbjgdaaQDehornoySigns1
import Derived.Test.YtplekfgadbjgdaaQDehornoySigns2
import Derived.Test.YtplekfgadbjgdaaQDehornoySigns3
import Derived.Test.YtplekfgadbjgdaaQDehornoySigns4
import Derived.Test.YtplekfgadbjgdaaQDehornoySigns5
import Derived.Test.YtplekfgadbjgdaaQDehornoySigns6
import Derived.Test.YtplekfgadbjgdaaQDehornoySigns7
import Derived.Test.YtplekfgadbjgdaaQDehornoySigns8
import Derived.Test.YtplekfgadbjgdaaQDehornoySigns9
import Derived.Test.YtplekfgadbjgdaaQDehornoySigns10
import Derived.Test.YtplekfgadbjgdaaQDehornoySigns11
import Derived.Test.YtplekfgadbjgdaaQDehornoySigns12
import Derived.Test.YtplekfgadbjgdaaQDehornoySigns13
import Derived.Test.YtplekfgadbjgdaaQDehornoySigns14
import Derived.Test.YtplekfgadbjgdaaQDehornoySigns15
import Derived.Test.YtplekfgadbjgdaaQDehornoySigns16
import Derived.Test.YtplekfgadbjgdaaQDehornoySigns17
import Derived.Test.YtplekfgadbjgdaaQDehornoySigns18
import Derived.Test.YtplekfgadbjgdaaQDehornoySigns19
import Derived.Test.YtplekfgadbjgdaaQDehornoySigns20
import Derived.Test.YtplekfgadbjgdaaQDehornoySigns21
import Derived.Test.YtplekfgadbjgdaaQDehornoySigns22
import Derived.Test.YtplekfgadbjgdaaQDehornoySigns23
import Derived.Test.YtplekfgadbjgdaaQDehornoySigns24
import Derived.Test.YtplekfgadbjgdaaQDehornoySigns25
import Derived.Test.YtplekfgadbjgdaaQDehornoySigns26
import Derived.Test.YtplekfgadbjgdaaQDehornoySigns27
import Derived.Test.YtplekfgadbjgdaaQDehornoySigns28
import Derived.Test.YtplekfgadbjgdaaQDehornoySigns29
import Derived.Test.YtplekfgadbjgdaaQDehornoySigns30
import Derived.Test.YtplekfgadbjgdaaQDehornoySigns31
import Derived.Test.YtplekfgadbjgdaaQDehornoySigns32
import Derived.Test.YtplekfgadbjgdaaQDehornoySigns33
import Derived.Test.YtplekfgadbjgdaaQDehornoySigns34
import Derived.Test.YtplekfgadbjgdaaQDehornoySigns35
import Derived.Test.YtplekfgadbjgdaaQDehornoySigns36
import Derived.Test.YtplekfgadbjgdaaQDehornoySigns37
import Derived.Test.YtplekfgadbjgdaaQDehornoySigns38
import Derived.Test.YtplekfgadbjgdaaQDehornoySigns39
import Derived.Test.YtplekfgadbjgdaaQDehornoySigns40
import Derived.RangeFuncNested
import Derived.RangeFuncCalls
import Derived.OrdersIn
import Derived.OrdersHeld
import Derived.Deep.RegionHeld
namespace Go.Proofs.Ytplekfgadbjgdaa
open Go Go.ChangeShapes Go.WideShapes Go.ChangeAt Go.RowKit Go.Sl
set_option maxRecDepth 100000 in
theorem dehornoySigns_lifted (os : Os) (started : os.Started) (H : Type) (enc : TypeId × Value → H) :
    ReturnsInHanded {} Try.checked os 11 .any (Rows.dehornoySignsSpec.pre6 enc Try.prog Try.f11 Rows.dehornoySignsRow.domain false) (Rows.dehornoySignsSpec.post enc Try.prog Try.f11 false true false false) := by
  refine returnsInHanded_of_change (C := Try.checked) own_knob started (by kernel_rfl) Try.func11
    (ChangeSpec.witness6 (enc := enc) (C := Try.checked) false ⟨#[], #[.int .i64 0, .slice none 0 0], []⟩ 8 (by kernel_rfl) (by kernel_rfl) (by kernel_rfl) (by kernel_rfl)) ?_
  intro W base args ds gs before hval0 hW hcnd _
  have hval : ∀ (j : Nat) t v, Try.f11.params[j]? = some t → args[j]? = some v → Value.okWide Try.prog W .any base t v := hval0
  have hW' := hW
  obtain ⟨p, q, hA0, hV, rfl, _, _⟩ := hW
  have hA : DataW.TrodAll enc Try.prog W 0 (fun _ => true) true Try.f11.params.toList args.toList ds p := hA0
  rw [Try.params11] at hA hval
  obtain ⟨args, rfl⟩ : ∃ l : List Value, args = l.toArray := ⟨args.toList, rfl⟩
  obtain ⟨v0, vs0, d0, ds0, p0, q0, rfl, rfl, rfl, h0, r0⟩ := trodAll_cons hA
  obtain ⟨v1, vs1, d1, ds1, p1, q1, rfl, rfl, rfl, h1, r1⟩ := trodAll_cons r0
  obtain ⟨rfl, rfl, rfl⟩ := trodAll_nil r1
  obtain ⟨rfl, rfl⟩ := trodVars_none hV
  clear hA0 hval0
  have hlt : ∀ x ∈ (p0 ++ (p1 ++ [])), x.block < W.heap.size := fun x hx => by simpa using hW'.lt x (by simpa using hx)
  obtain ⟨n0, en0, hn0⟩ := arg_int (hval 0 3 v0 rfl rfl) h0
  obtain ⟨xs1, hx1, hr1⟩ := arg_ints (hval 1 22 v1 rfl rfl) h1
  have hk0 : ∀ (W' : World), Below W.heap.size W W' → DataW.Trod enc Try.prog W' 0 (fun b => decide (b < W.heap.size)) true 3 v0 d0 p0 := fun W' hb => Below.trod laid_out (by kernel_rfl) (of_decide_eq_true (by kernel_rfl)) h0 hb (fun x hx => hlt x (by simp [hx]))
  have hk1 : ∀ (W' : World), Below W.heap.size W W' → DataW.Trod enc Try.prog W' 0 (fun b => decide (b < W.heap.size)) true 22 v1 d1 p1 := fun W' hb => Below.trod laid_out (by kernel_rfl) (of_decide_eq_true (by kernel_rfl)) h1 hb (fun x hx => hlt x (by simp [hx]))
  subst en0
  refine (dehornoySigns_true n0 hn0 v1 xs1 hx1 hr1 W).mono fun e W' ⟨he, hb⟩ => ?_
  subst he
  refine ⟨_, rfl, _, _, _, [], (p0 ++ (p1 ++ [])), [], hW', ?_, ?_, rfl, hb.frame _, fun h => by cases h⟩
  · exact trodAll_mk1 (shut_bool Try.underlying4 true)
  · exact trodAll_cons_mk (hk0 _ hb) (trodAll_cons_mk (hk1 _ hb) (trodAll_mk0))

theorem dehornoySigns_holds : Rows.DehornoySignsSaid :=
  OpenClaim.holds_of_wide 11 Try.f11 rfl rfl rfl rfl rfl rfl rfl ⟨rfl, rfl, rfl, rfl, rfl⟩ rfl rfl rfl rfl rfl (by kernel_rfl) Try.func11 (by kernel_rfl)
    (of_decide_eq_true (by kernel_rfl)) (by unfold Func.isWrapper; rw [if_neg (of_decide_eq_false (by kernel_rfl))]; exact ⟨rfl, rfl⟩)
    (fun os started H enc _ => dehornoySigns_lifted os started H enc)

end Go.Proofs.Ytplekfgadbjgdaa


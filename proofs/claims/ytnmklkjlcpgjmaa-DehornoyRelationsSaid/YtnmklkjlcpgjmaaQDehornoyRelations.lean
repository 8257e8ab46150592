/- DehornoyRelations holds: for every input the call returns true, and its arguments read as before. -/
import Derived.Test.YtnmklkjlcpgjmaaQDehornoyRelations0
import Derived.Test.YtnmklkjlcpgjmaaQDehornoyRelations1
import Derived.Test.YtnmklkjlcpgjmaaQDehornoyRelations2
import Derived.Test.YtnmklkjlcpgjmaaQDehornoyRelations3
import Derived.Test.YtnmklkjlcpgjmaaQDehornoyRelations4
import Derived.Test.YtnmklkjlcpgjmaaQDehornoyRelations5
import Derived.Test.YtnmklkjlcpgjmaaQDehornoyRelations6
import Derived.Test.YtnmklkjlcpgjmaaQDehornoyRelations7
import Derived.Test.YtnmklkjlcpgjmaaQDehornoyRelations8
import Derived.Test.YtnmklkjlcpgjmaaQDehornoyRelations9
import Derived.Test.YtnmklkjlcpgjmaaQDehornoyRelations10
import Derived.Test.YtnmklkjlcpgjmaaQDehornoyRelations11
import Derived.Test.YtnmklkjlcpgjmaaQDehornoyRelations12
import Derived.Test.YtnmklkjlcpgjmaaQDehornoyRelations13
import Derived.Test.YtnmklkjlcpgjmaaQDehornoyRelations14
import Derived.Test.YtnmklkjlcpgjmaaQDehornoyRelations15
import Derived.Test.YtnmklkjlcpgjmaaQDehornoyRelations16
import Derived.Test.YtnmklkjlcpgjmaaQDehornoyRelations17
import Derived.Test.YtnmklkjlcpgjmaaQDehornoyRelations18
import Derived.Test.YtnmklkjlcpgjmaaQDehornoyRelations19
import Derived.Test.YtnmklkjlcpgjmaaQDehornoyRelations20
import Derived.Test.YtnmklkjlcpgjmaaQDehornoyRelations21
import Derived.Test.YtnmklkjlcpgjmaaQDehornoyRelations22
import Derived.Test.YtnmklkjlcpgjmaaQDehornoyRelations23
import Derived.Test.YtnmklkjlcpgjmaaQDehornoyRelations24
import Derived.Test.YtnmklkjlcpgjmaaQDehornoyRelations25
import Derived.Test.YtnmklkjlcpgjmaaQDehornoyRelations26
import Derived.Test.YtnmklkjlcpgjmaaQDehornoyRelations27
import Derived.Test.YtnmklkjlcpgjmaaQDehornoyRelations28
import Derived.Test.YtnmklkjlcpgjmaaQDehornoyRelations29
import Derived.Deep.RegionHeld3
import Derived.RangeFuncNested
import Derived.RangeFuncCalls
import Derived.OrdersIn
import Derived.OrdersHeld
import Derived.Deep.RegionHeld
import Derived.Deep.RegionLaw
import Derived.Deep.QuietTactic
import Derived.BigQuiet
import Derived.IntWalk
namespace Go.Proofs.Ytnmklkjlcpgjmaa
open Go Go.ChangeShapes Go.WideShapes Go.ChangeAt Go.RowKit Go.Sl
set_option maxRecDepth 100000 in
theorem dehornoyRelations_lifted (os : Os) (started : os.Started) (H : Type) (enc : TypeId × Value → H) :
    ReturnsInHanded {} Try.checked os 4 .any (Rows.dehornoyRelationsSpec.pre6 enc Try.prog Try.f4 Rows.dehornoyRelationsRow.domain false) (Rows.dehornoyRelationsSpec.post enc Try.prog Try.f4 false true false false) := by
  refine returnsInHanded_of_change (C := Try.checked) own_knob started (by kernel_rfl) Try.func4
    (ChangeSpec.witness6 (enc := enc) (C := Try.checked) false ⟨#[], #[.int .i64 0, .slice none 0 0, .slice none 0 0, .int .i64 0, .int .i64 0], []⟩ 8 (by kernel_rfl) (by kernel_rfl) (by kernel_rfl) (by kernel_rfl)) ?_
  intro W base args ds gs before hval0 hW hcnd _
  have hval : ∀ (j : Nat) t v, Try.f4.params[j]? = some t → args[j]? = some v → Value.okWide Try.prog W .any base t v := hval0
  have hW' := hW
  obtain ⟨p, q, hA0, hV, rfl, _, _⟩ := hW
  have hA : DataW.TrodAll enc Try.prog W 0 (fun _ => true) true Try.f4.params.toList args.toList ds p := hA0
  rw [Try.params4] at hA hval
  obtain ⟨args, rfl⟩ : ∃ l : List Value, args = l.toArray := ⟨args.toList, rfl⟩
  obtain ⟨v0, vs0, d0, ds0, p0, q0, rfl, rfl, rfl, h0, r0⟩ := trodAll_cons hA
  obtain ⟨v1, vs1, d1, ds1, p1, q1, rfl, rfl, rfl, h1, r1⟩ := trodAll_cons r0
  obtain ⟨v2, vs2, d2, ds2, p2, q2, rfl, rfl, rfl, h2, r2⟩ := trodAll_cons r1
  obtain ⟨v3, vs3, d3, ds3, p3, q3, rfl, rfl, rfl, h3, r3⟩ := trodAll_cons r2
  obtain ⟨v4, vs4, d4, ds4, p4, q4, rfl, rfl, rfl, h4, r4⟩ := trodAll_cons r3
  obtain ⟨rfl, rfl, rfl⟩ := trodAll_nil r4
  obtain ⟨rfl, rfl⟩ := trodVars_none hV
  clear hA0 hval0
  have hlt : ∀ x ∈ (p0 ++ (p1 ++ (p2 ++ (p3 ++ (p4 ++ []))))), x.block < W.heap.size := fun x hx => by simpa using hW'.lt x (by simpa using hx)
  obtain ⟨n0, en0, hn0⟩ := arg_int (hval 0 3 v0 rfl rfl) h0
  obtain ⟨xs1, hx1, hr1⟩ := arg_ints (hval 1 22 v1 rfl rfl) h1
  obtain ⟨xs2, hx2, hr2⟩ := arg_ints (hval 2 22 v2 rfl rfl) h2
  obtain ⟨n3, en3, hn3⟩ := arg_int (hval 3 3 v3 rfl rfl) h3
  obtain ⟨n4, en4, hn4⟩ := arg_int (hval 4 3 v4 rfl rfl) h4
  have hk0 : ∀ (W' : World), Below W.heap.size W W' → DataW.Trod enc Try.prog W' 0 (fun b => decide (b < W.heap.size)) true 3 v0 d0 p0 := fun W' hb => Below.trod laid_out (by kernel_rfl) (of_decide_eq_true (by kernel_rfl)) h0 hb (fun x hx => hlt x (by simp [hx]))
  have hk1 : ∀ (W' : World), Below W.heap.size W W' → DataW.Trod enc Try.prog W' 0 (fun b => decide (b < W.heap.size)) true 22 v1 d1 p1 := fun W' hb => Below.trod laid_out (by kernel_rfl) (of_decide_eq_true (by kernel_rfl)) h1 hb (fun x hx => hlt x (by simp [hx]))
  have hk2 : ∀ (W' : World), Below W.heap.size W W' → DataW.Trod enc Try.prog W' 0 (fun b => decide (b < W.heap.size)) true 22 v2 d2 p2 := fun W' hb => Below.trod laid_out (by kernel_rfl) (of_decide_eq_true (by kernel_rfl)) h2 hb (fun x hx => hlt x (by simp [hx]))
  have hk3 : ∀ (W' : World), Below W.heap.size W W' → DataW.Trod enc Try.prog W' 0 (fun b => decide (b < W.heap.size)) true 3 v3 d3 p3 := fun W' hb => Below.trod laid_out (by kernel_rfl) (of_decide_eq_true (by kernel_rfl)) h3 hb (fun x hx => hlt x (by simp [hx]))
  have hk4 : ∀ (W' : World), Below W.heap.size W W' → DataW.Trod enc Try.prog W' 0 (fun b => decide (b < W.heap.size)) true 3 v4 d4 p4 := fun W' hb => Below.trod laid_out (by kernel_rfl) (of_decide_eq_true (by kernel_rfl)) h4 hb (fun x hx => hlt x (by simp [hx]))
  subst en0
  subst en3
  subst en4
  refine (dehornoyRelations_true n0 hn0 v1 xs1 hx1 hr1 v2 xs2 hx2 hr2 n3 hn3 n4 hn4 W).mono fun e W' ⟨he, hb⟩ => ?_
  subst he
  refine ⟨_, rfl, _, _, _, [], (p0 ++ (p1 ++ (p2 ++ (p3 ++ (p4 ++ []))))), [], hW', ?_, ?_, rfl, hb.frame _, fun h => by cases h⟩
  · exact trodAll_mk1 (shut_bool Try.underlying4 true)
  · exact trodAll_cons_mk (hk0 _ hb) (trodAll_cons_mk (hk1 _ hb) (trodAll_cons_mk (hk2 _ hb) (trodAll_cons_mk (hk3 _ hb) (trodAll_cons_mk (hk4 _ hb) (trodAll_mk0)))))

theorem dehornoyRelations_holds : Rows.DehornoyRelationsSaid :=
  OpenClaim.holds_of_wide 4 Try.f4 rfl rfl rfl rfl rfl rfl rfl ⟨rfl, rfl, rfl, rfl, rfl⟩ rfl rfl rfl rfl rfl (by kernel_rfl) Try.func4 (by kernel_rfl)
    (of_decide_eq_true (by kernel_rfl)) (by unfold Func.isWrapper; rw [if_neg (of_decide_eq_false (by kernel_rfl))]; exact ⟨rfl, rfl⟩)
    (fun os started H enc _ => dehornoyRelations_lifted os started H enc)

end Go.Proofs.Ytnmklkjlcpgjmaa


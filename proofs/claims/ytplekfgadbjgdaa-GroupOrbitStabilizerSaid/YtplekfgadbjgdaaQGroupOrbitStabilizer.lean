/- GroupOrbitStabilizer holds: for every input the call returns true, and its arguments read as before. -/
import Derived.Test.YtplekfgadbjgdaaQGroupOrbitStabilizer0
import Derived.Test.YtplekfgadbjgdaaQGroupOrbitStabilizer1
import Derived.Test.YtplekfgadbjgdaaQGroupOrbitStabilizer2
import Derived.Test.YtplekfgadbjgdaaQGroupOrbitStabilizer3
import Derived.Test.YtplekfgadbjgdaaQGroupOrbitStabilizer4
import Derived.Test.YtplekfgadbjgdaaQGroupOrbitStabilizer5
import Derived.Test.YtplekfgadbjgdaaQGroupOrbitStabilizer6
import Derived.Test.YtplekfgadbjgdaaQGroupOrbitStabilizer7
import Derived.Test.YtplekfgadbjgdaaQGroupOrbitStabilizer8
import Derived.Test.YtplekfgadbjgdaaQGroupOrbitStabilizer9
import Derived.Test.YtplekfgadbjgdaaQGroupOrbitStabilizer10
import Derived.Test.YtplekfgadbjgdaaQGroupOrbitStabilizer11
import Derived.Test.YtplekfgadbjgdaaQGroupOrbitStabilizer12
import Derived.Test.YtplekfgadbjgdaaQGroupOrbitStabilizer13
import Derived.Test.YtplekfgadbjgdaaQGroupOrbitStabilizer14
import Derived.Test.YtplekfgadbjgdaaQGroupOrbitStabilizer15
import Derived.Test.YtplekfgadbjgdaaQGroupOrbitStabilizer16
import Derived.Test.YtplekfgadbjgdaaQGroupOrbitStabilizer17
import Derived.Test.YtplekfgadbjgdaaQGroupOrbitStabilizer18
import Derived.Test.YtplekfgadbjgdaaQGroupOrbitStabilizer19
import Derived.Test.YtplekfgadbjgdaaQGroupOrbitStabilizer20
import Derived.Test.YtplekfgadbjgdaaQGroupOrbitStabilizer21
import Derived.Test.YtplekfgadbjgdaaQGroupOrbitStabilizer22
import Derived.Test.YtplekfgadbjgdaaQGroupOrbitStabilizer23
import Derived.Test.YtplekfgadbjgdaaQGroupOrbitStabilizer24

namespace Go.Proofs.Ytplekfgadbjgdaa
open Go Go.ChangeShapes Go.WideShapes Go.ChangeAt Go.RowKit Go.Sl
set_option maxRecDepth 100000 in
theorem groupOrbitStabilizer_lifted (os : Os) (started : os.Started) (H : Type) (enc : TypeId × Value → H) :
    ReturnsInHanded {} Try.checked os 7 .any (Rows.groupOrbitStabilizerSpec.pre6 enc Try.prog Try.f7 Rows.groupOrbitStabilizerRow.domain false) (Rows.groupOrbitStabilizerSpec.post enc Try.prog Try.f7 false true false false) := by
  refine returnsInHanded_of_change (C := Try.checked) own_knob started (by kernel_rfl) Try.func7
    (ChangeSpec.witness6 (enc := enc) (C := Try.checked) false ⟨#[], #[.int .i64 0, .slice none 0 0], []⟩ 8 (by kernel_rfl) (by kernel_rfl) (by kernel_rfl) (by kernel_rfl)) ?_
  intro W base args ds gs before hval0 hW hcnd _
  have hval : ∀ (j : Nat) t v, Try.f7.params[j]? = some t → args[j]? = some v → Value.okWide Try.prog W .any base t v := hval0
  have hW' := hW
  obtain ⟨p, q, hA0, hV, rfl, _, _⟩ := hW
  have hA : DataW.TrodAll enc Try.prog W 0 (fun _ => true) true Try.f7.params.toList args.toList ds p := hA0
  rw [Try.params7] at hA hval
  obtain ⟨args, rfl⟩ : ∃ l : List Value, args = l.toArray := ⟨args.toList, rfl⟩
  obtain ⟨v0, vs0, d0, ds0, p0, q0, rfl, rfl, rfl, h0, r0⟩ := trodAll_cons hA
  obtain ⟨v1, vs1, d1, ds1, p1, q1, rfl, rfl, rfl, h1, r1⟩ := trodAll_cons r0
  obtain ⟨rfl, rfl, rfl⟩ := trodAll_nil r1
  obtain ⟨rfl, rfl⟩ := trodVars_none hV
  clear hA0 hval0
  have hlt : ∀ x ∈ (p0 ++ (p1 ++ [])), x.block < W.heap.size := fun x hx => by simpa using hW'.lt x (by simpa using hx)
  obtain ⟨n0, en0, hn0⟩ := arg_int (hval 0 3 v0 rfl rfl) h0
  obtain ⟨xs1, hx1, hr1⟩ := arg_rows (hval 1 24 v1 rfl rfl) h1
  have hk0 : ∀ (W' : World), Below W.heap.size W W' → DataW.Trod enc Try.prog W' 0 (fun b => decide (b < W.heap.size)) true 3 v0 d0 p0 := fun W' hb => Below.trod laid_out (by kernel_rfl) (of_decide_eq_true (by kernel_rfl)) h0 hb (fun x hx => hlt x (by simp [hx]))
  have hk1 : ∀ (W' : World), Below W.heap.size W W' → DataW.Trod enc Try.prog W' 0 (fun b => decide (b < W.heap.size)) true 24 v1 d1 p1 := fun W' hb => Below.trod laid_out (by kernel_rfl) (of_decide_eq_true (by kernel_rfl)) h1 hb (fun x hx => hlt x (by simp [hx]))
  subst en0
  refine (groupOrbitStabilizer_true n0 hn0 v1 xs1 hx1 hr1 W).mono fun e W' ⟨he, hb⟩ => ?_
  subst he
  refine ⟨_, rfl, _, _, _, [], (p0 ++ (p1 ++ [])), [], hW', ?_, ?_, rfl, hb.frame _, fun h => by cases h⟩
  · exact trodAll_mk1 (shut_bool Try.underlying4 true)
  · exact trodAll_cons_mk (hk0 _ hb) (trodAll_cons_mk (hk1 _ hb) (trodAll_mk0))

theorem groupOrbitStabilizer_holds : Rows.GroupOrbitStabilizerSaid :=
  OpenClaim.holds_of_wide 7 Try.f7 rfl rfl rfl rfl rfl rfl rfl ⟨rfl, rfl, rfl, rfl, rfl⟩ rfl rfl rfl rfl rfl (by kernel_rfl) Try.func7 (by kernel_rfl)
    (of_decide_eq_true (by kernel_rfl)) (by unfold Func.isWrapper; rw [if_neg (of_decide_eq_false (by kernel_rfl))]; exact ⟨rfl, rfl⟩)
    (fun os started H enc _ => groupOrbitStabilizer_lifted os started H enc)

end Go.Proofs.Ytplekfgadbjgdaa


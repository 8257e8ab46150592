/- GroupWords holds: for every input the call returns true, and its arguments read as before. -/
import Derived.Test.YtplekfgadbjgdaaQGroupWords0
import Derived.Test.YtplekfgadbjgdaaQGroupWords1
import Derived.Test.YtplekfgadbjgdaaQGroupWords2
import Derived.Test.YtplekfgadbjgdaaQGroupWords3
import Derived.Test.YtplekfgadbjgdaaQGroupWords4
import Derived.Test.YtplekfgadbjgdaaQGroupWords5
import Derived.Test.YtplekfgadbjgdaaQGroupWords6
import Derived.Test.YtplekfgadbjgdaaQGroupWords7
import Derived.Test.YtplekfgadbjgdaaQGroupWords8
import Derived.Test.YtplekfgadbjgdaaQGroupWords9
import Derived.Test.YtplekfgadbjgdaaQGroupWords10
import Derived.Test.YtplekfgadbjgdaaQGroupWords11
import Derived.Test.YtplekfgadbjgdaaQGroupWords12
import Derived.Test.YtplekfgadbjgdaaQGroupWords13
import Derived.Test.YtplekfgadbjgdaaQGroupWords14
import Derived.Test.YtplekfgadbjgdaaQGroupWords15
import Derived.Test.YtplekfgadbjgdaaQGroupWords16
import Derived.Test.YtplekfgadbjgdaaQGroupWords17
import Derived.Test.YtplekfgadbjgdaaQGroupWords18
import Derived.Test.YtplekfgadbjgdaaQGroupWords19
import Derived.Test.YtplekfgadbjgdaaQGroupWords20
import Derived.Test.YtplekfgadbjgdaaQGroupWords21
import Derived.Test.YtplekfgadbjgdaaQGroupWords22
import Derived.Test.YtplekfgadbjgdaaQGroupWords23
import Derived.Test.YtplekfgadbjgdaaQGroupWords24
import Derived.Test.YtplekfgadbjgdaaQGroupWords25
import Derived.Test.YtplekfgadbjgdaaQGroupWords26

namespace Go.Proofs.Ytplekfgadbjgdaa
open Go Go.ChangeShapes Go.WideShapes Go.ChangeAt Go.RowKit Go.Sl
set_option maxRecDepth 100000 in
theorem groupWords_lifted (os : Os) (started : os.Started) (H : Type) (enc : TypeId × Value → H) :
    ReturnsInHanded {} Try.checked os 6 .any (Rows.groupWordsSpec.pre6 enc Try.prog Try.f6 Rows.groupWordsRow.domain false) (Rows.groupWordsSpec.post enc Try.prog Try.f6 false true false false) := by
  refine returnsInHanded_of_change (C := Try.checked) own_knob started (by kernel_rfl) Try.func6
    (ChangeSpec.witness6 (enc := enc) (C := Try.checked) false ⟨#[], #[.int .i64 0, .slice none 0 0, .slice none 0 0], []⟩ 8 (by kernel_rfl) (by kernel_rfl) (by kernel_rfl) (by kernel_rfl)) ?_
  intro W base args ds gs before hval0 hW hcnd _
  have hval : ∀ (j : Nat) t v, Try.f6.params[j]? = some t → args[j]? = some v → Value.okWide Try.prog W .any base t v := hval0
  have hW' := hW
  obtain ⟨p, q, hA0, hV, rfl, _, _⟩ := hW
  have hA : DataW.TrodAll enc Try.prog W 0 (fun _ => true) true Try.f6.params.toList args.toList ds p := hA0
  rw [Try.params6] at hA hval
  obtain ⟨args, rfl⟩ : ∃ l : List Value, args = l.toArray := ⟨args.toList, rfl⟩
  obtain ⟨v0, vs0, d0, ds0, p0, q0, rfl, rfl, rfl, h0, r0⟩ := trodAll_cons hA
  obtain ⟨v1, vs1, d1, ds1, p1, q1, rfl, rfl, rfl, h1, r1⟩ := trodAll_cons r0
  obtain ⟨v2, vs2, d2, ds2, p2, q2, rfl, rfl, rfl, h2, r2⟩ := trodAll_cons r1
  obtain ⟨rfl, rfl, rfl⟩ := trodAll_nil r2
  obtain ⟨rfl, rfl⟩ := trodVars_none hV
  clear hA0 hval0
  have hlt : ∀ x ∈ (p0 ++ (p1 ++ (p2 ++ []))), x.block < W.heap.size := fun x hx => by simpa using hW'.lt x (by simpa using hx)
  obtain ⟨n0, en0, hn0⟩ := arg_int (hval 0 3 v0 rfl rfl) h0
  obtain ⟨xs1, hx1, hr1⟩ := arg_rows (hval 1 24 v1 rfl rfl) h1
  obtain ⟨xs2, hx2, hr2⟩ := arg_ints (hval 2 22 v2 rfl rfl) h2
  have hk0 : ∀ (W' : World), Below W.heap.size W W' → DataW.Trod enc Try.prog W' 0 (fun b => decide (b < W.heap.size)) true 3 v0 d0 p0 := fun W' hb => Below.trod laid_out (by kernel_rfl) (of_decide_eq_true (by kernel_rfl)) h0 hb (fun x hx => hlt x (by simp [hx]))
  have hk1 : ∀ (W' : World), Below W.heap.size W W' → DataW.Trod enc Try.prog W' 0 (fun b => decide (b < W.heap.size)) true 24 v1 d1 p1 := fun W' hb => Below.trod laid_out (by kernel_rfl) (of_decide_eq_true (by kernel_rfl)) h1 hb (fun x hx => hlt x (by simp [hx]))
  have hk2 : ∀ (W' : World), Below W.heap.size W W' → DataW.Trod enc Try.prog W' 0 (fun b => decide (b < W.heap.size)) true 22 v2 d2 p2 := fun W' hb => Below.trod laid_out (by kernel_rfl) (of_decide_eq_true (by kernel_rfl)) h2 hb (fun x hx => hlt x (by simp [hx]))
  subst en0
  refine (groupWords_true n0 hn0 v1 xs1 hx1 hr1 v2 xs2 hx2 hr2 W).mono fun e W' ⟨he, hb⟩ => ?_
  subst he
  refine ⟨_, rfl, _, _, _, [], (p0 ++ (p1 ++ (p2 ++ []))), [], hW', ?_, ?_, rfl, hb.frame _, fun h => by cases h⟩
  · exact trodAll_mk1 (shut_bool Try.underlying4 true)
  · exact trodAll_cons_mk (hk0 _ hb) (trodAll_cons_mk (hk1 _ hb) (trodAll_cons_mk (hk2 _ hb) (trodAll_mk0)))

theorem groupWords_holds : Rows.GroupWordsSaid :=
  OpenClaim.holds_of_wide 6 Try.f6 rfl rfl rfl rfl rfl rfl rfl ⟨rfl, rfl, rfl, rfl, rfl⟩ rfl rfl rfl rfl rfl (by kernel_rfl) Try.func6 (by kernel_rfl)
    (of_decide_eq_true (by kernel_rfl)) (by unfold Func.isWrapper; rw [if_neg (of_decide_eq_false (by kernel_rfl))]; exact ⟨rfl, rfl⟩)
    (fun os started H enc _ => groupWords_lifted os started H enc)

end Go.Proofs.Ytplekfgadbjgdaa


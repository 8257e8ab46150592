/- PermGroup: for every input the statement returns true, and nothing that was there has changed. -/
import Derived.Test.YtmcecmnbdcbehaaQPermSigns0
import Derived.Test.YtmcecmnbdcbehaaQPermSigns1
import Derived.Test.YtmcecmnbdcbehaaQPermSigns2
import Derived.Test.YtmcecmnbdcbehaaQPermSigns3
import Derived.Test.YtmcecmnbdcbehaaQPermSigns7
import Derived.Test.YtmcecmnbdcbehaaQPermSigns8

namespace Go.Proofs.Ytmcecmnbdcbehaa
open Go.RowKit Go.Sl

theorem permuted_calls (w : World) :
    Calls Try.prog 53 #[] w fun e w' => e = .returned (.bool true) ∧ Below w.heap.size w w' := by
  have p1 : IsPerm [1, 2, 0] := ⟨by decide, by decide⟩
  have p2 : IsPerm [1, 0, 2] := ⟨by decide, by decide⟩
  have p3 : IsPerm [2, 0, 1] := ⟨by decide, by decide⟩
  go_enter Try.func53, Try.ntmps53
  go_wp2_with fail
  refine (compose_calls _ _ [1, 2, 0] [1, 0, 2] _ ((ints_lit [1, 2, 0] (by simp) rfl rfl (by decide)).alloc _) (ints_lit [1, 0, 2] (by simp) rfl rfl (by decide)) p1 p2 rfl (by decide)).mono ?_
  rintro e w1 ⟨v1, rfl, hv1, hb1⟩
  have sv1 := hv1.isSl
  have b1 : Below w.heap.size w w1 := Below.chain (((Below.refl _ _).alloc (Nat.le_refl _) _).alloc (by simp) _) hb1
  have HB1 := Lib.hid b1; clear b1 hb1
  have HV1 := Lib.hid hv1.ints; clear hv1
  go_wp2_with fail
  refine (rank_calls _ [2, 0, 1] _ (ints_lit [2, 0, 1] (by simp) rfl rfl (by decide)) p3 (by decide)).mono ?_
  rintro e w2 ⟨rfl, rfl⟩
  go_wp2_with fail
  refine (equal_yes _ _ _ [0, 2, 1] _ ((HV1.out.alloc _).alloc _) (ints_lit [0, 2, 1] (by simp) rfl rfl (by decide)) (by decide)).mono ?_
  rintro e w2 ⟨rfl, hb2⟩
  have h4 : ((rankL [2, 0, 1] : Nat) : Int) = 4 := by decide
  go_wp2_with fail
  go_ret
  exact ⟨rfl, Below.chain HB1.out (Below.chain (((Below.refl _ _).alloc (Nat.le_refl _) _).alloc (by simp) _) hb2)⟩

end Go.Proofs.Ytmcecmnbdcbehaa


/- The fact ordered of dehornoy. -/
import Derived.Test.YtnmklkjlcpgjmaaQDehornoyRelations0
import Derived.Test.YtnmklkjlcpgjmaaQDehornoyRelations1
import Derived.Test.YtnmklkjlcpgjmaaQDehornoyRelations2
import Derived.Test.YtnmklkjlcpgjmaaQDehornoyRelations3
import Derived.Test.YtnmklkjlcpgjmaaQDehornoyRelations4
import Derived.Test.YtnmklkjlcpgjmaaQDehornoyRelations5
import Derived.Test.YtnmklkjlcpgjmaaQDehornoyRelations7
import Derived.Test.YtnmklkjlcpgjmaaQDehornoyRelations8
import Derived.Test.YtnmklkjlcpgjmaaQDehornoyRelations9
import Derived.Test.YtnmklkjlcpgjmaaQDehornoyRelations10
import Derived.Test.YtnmklkjlcpgjmaaQDehornoyRelations11
import Derived.Test.YtnmklkjlcpgjmaaQDehornoyRelations12
import Derived.Test.YtnmklkjlcpgjmaaQDehornoyRelations13
import Derived.Test.YtnmklkjlcpgjmaaQDehornoyRelations14
import Derived.Test.YtnmklkjlcpgjmaaQDehornoyRelations15
import Derived.Test.YtnmklkjlcpgjmaaQDehornoyRelations16
import Derived.Test.YtnmklkjlcpgjmaaQDehornoyRelations17
import Derived.Test.YtnmklkjlcpgjmaaQDehornoyRelations19
import Derived.Test.YtnmklkjlcpgjmaaQDehornoyRelations20
import Derived.Test.YtnmklkjlcpgjmaaQDehornoyRelations21
import Derived.Test.YtnmklkjlcpgjmaaQDehornoyRelations22
import Derived.Test.YtnmklkjlcpgjmaaQDehornoyRelations23
import Derived.Test.YtnmklkjlcpgjmaaQDehornoyRelations24
import Derived.Deep.RegionLaw
namespace Go.Proofs.Ytnmklkjlcpgjmaa
open Go.RowKit Go.Sl

theorem redOK_short {n : Nat} {xs : List Int} (h : LtW n xs) (h5 : n ≤ 5) (hl : xs.length ≤ 16) : RedOK xs := redOK16 (h.mono h5) (Nat.le_trans (redL_length xs) hl)
set_option maxHeartbeats 4000000 in
set_option maxRecDepth 100000 in
theorem ordered_calls (w : World) :
    Calls Try.prog 17 #[] w fun e w' => e = .returned (.bool true) ∧ Below w.heap.size w w' := by
  have l1 : Ints ((w.alloc (.cells #[.int .i64 2] 3)).alloc (.cells #[.int .i64 1] 3)) (.slice (some ⟨w.heap.size, 0, none⟩) 1 1) [2] := (ints_lit [2] rfl rfl rfl (by decide)).alloc _
  have l2 : Ints ((w.alloc (.cells #[.int .i64 2] 3)).alloc (.cells #[.int .i64 1] 3)) (.slice (some ⟨w.heap.size + 1, 0, none⟩) 1 1) [1] := ints_lit [1] (by simp) rfl rfl (by decide)
  have h2 : LtW 3 [2] := fun x hx => by rw [List.mem_singleton.1 hx]; exact ⟨by decide, by decide⟩
  have h1 : LtW 3 [1] := fun x hx => by rw [List.mem_singleton.1 hx]; exact ⟨by decide, by decide⟩
  have hc : Clean [-2, 1] := by
    have c1 : Clean [-2] := clean_snoc (V := []) clean_nil (fun ⟨P, M, e, _⟩ => by simp at e)
    refine clean_snoc (V := [-2]) c1 fun ⟨P, M, e, _⟩ => ?_
    have : (-1 : Int) ∈ [-2] := by rw [e]; simp
    simp at this
  have hl : LtW 3 [-2, 1] := fun x hx => by
    simp only [List.mem_cons, List.not_mem_nil, or_false] at hx
    rcases hx with rfl | rfl <;> exact ⟨by decide, by decide⟩
  have hsg : SgnOf 3 (invL [2] ++ [1]) 1 := ⟨[-2, 1], hc, hl, .refl _, .inr ⟨1, by decide, .inl rfl, fun x hx => by
    simp only [List.mem_cons, List.not_mem_nil, or_false] at hx
    rcases hx with rfl | rfl <;> exact ⟨by decide, fun _ => by omega⟩, 1, by simp, rfl⟩⟩
  have HC := Lib.hid (dCompare_calls 3 _ _ [2] [1] _ l1 l2 (by decide) (by decide) h2 h1 (by decide) (by decide) (redOK_short hl (by decide) (by decide)))
  have HS := Lib.hid hsg
  clear l1 l2 h1 h2 hc hl hsg
  go_enter Try.func17, Try.ntmps17
  go_wp2_with fail
  refine HC.out.mono ?_
  rintro e w1 ⟨s, rfl, -, hs, hb⟩
  obtain rfl := sgn_uniq hs HS.out (.refl _)
  have HB := Lib.hid (Below.chain (((Below.refl w.heap.size w).alloc (Nat.le_refl _) _).alloc (by simp) _) hb)
  clear hs hb
  go_wp2_with fail
  go_ret
  exact ⟨rfl, HB.out⟩


end Go.Proofs.Ytnmklkjlcpgjmaa


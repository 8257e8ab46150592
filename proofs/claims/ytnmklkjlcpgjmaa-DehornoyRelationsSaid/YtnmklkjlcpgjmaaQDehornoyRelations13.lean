/- Braid words: Index, Letter, Check, Inverse; the makers' Strands; walked. -/
import Derived.Test.YtnmklkjlcpgjmaaQDehornoyRelations0
import Derived.Test.YtnmklkjlcpgjmaaQDehornoyRelations1
import Derived.Test.YtnmklkjlcpgjmaaQDehornoyRelations2
import Derived.Test.YtnmklkjlcpgjmaaQDehornoyRelations3
import Derived.Test.YtnmklkjlcpgjmaaQDehornoyRelations8
import Derived.Test.YtnmklkjlcpgjmaaQDehornoyRelations9
import Derived.Test.YtnmklkjlcpgjmaaQDehornoyRelations10
import Derived.Test.YtnmklkjlcpgjmaaQDehornoyRelations11
import Derived.Test.YtnmklkjlcpgjmaaQDehornoyRelations12
import Derived.Deep.RegionLaw
namespace Go.Proofs.Ytnmklkjlcpgjmaa
open Go.RowKit Go.Sl

theorem enters_some {k : FuncId} (h : Go.Proofs.Enters Try.prog k) : ∀ args w, (callFunc k args).run Try.prog w = .ok (.enter k args) w := h

theorem strands_calls (n m : Int) (w : World) (hn : I64 n) (hm : 2 ≤ m) (hm2 : m ≤ 1000) :
    Calls Try.prog 5 #[.int .i64 n, .int .i64 m] w fun e w' => e = .returned (.int .i64 (2 + n % (m - 1))) ∧ w = w' := by
  have h1 := Int.emod_nonneg n (show m - 1 ≠ 0 by omega)
  have h2 := Int.emod_lt_of_pos n (show 0 < m - 1 by omega)
  obtain ⟨k, hk⟩ : ∃ k, n % (m - 1) = k := ⟨_, rfl⟩
  rw [hk] at h1 h2 ⊢
  have HK := Lib.hid hk; clear hk
  go_enter Try.func5, Try.ntmps5
  go_wp2_with (go_at_call 18; refine (below_calls n (m - 1) _ (by omega) (by omega) hn).mono ?_; rintro e w' ⟨rfl, rfl⟩; rw [HK.out])
  go_ret
  exact ⟨rfl, rfl⟩

theorem bindex_calls (x : Int) (w : World) (h1 : -1000 ≤ x) (h2 : x ≤ 1000) :
    Calls Try.prog 33 #[.int .i64 x] w fun e w' => e = .returned (.int .i64 x.natAbs) ∧ w = w' := by
  have hm : max x (-x) = (x.natAbs : Int) := by omega
  have HM := Lib.hid hm; clear hm
  go_enter Try.func33, Try.ntmps33
  go_wp2
  go_ret
  exact ⟨ret_int' HM.out, rfl⟩

theorem bletter_calls (n x : Int) (w : World) (hn : n ≤ 1000) (h0 : x ≠ 0) (h1 : -n < x) (h2 : x < n) :
    Calls Try.prog 30 #[.int .i64 n, .int .i64 x] w fun e w' => e = .returned (.bool true) ∧ w = w' := by
  have h3 : (x != 0) = true := by simp [h0]
  have hn1 : -1000 ≤ n := by omega
  have h1' : x > -n := h1
  clear h0 h1
  go_enter Try.func30, Try.ntmps30
  go_wp2
  go_ret
  exact ⟨rfl, rfl⟩

theorem bcheck1_calls (n x : Int) (B : Nat) (w : World) (hc : w.cell? ⟨B, 0, none⟩ = some (.int .i64 n)) (hn : n ≤ 1000) (h0 : x ≠ 0) (h1 : -n < x) (h2 : x < n) :
    Calls Try.prog 29 #[.int .i64 x, .pointer (some ⟨B, 0, none⟩)] w fun e w' => e = .returned (.bool false) ∧ w = w' := by
  go_enter Try.func29, Try.ntmps29
  go_wp2_with (go_at_call 30; refine (bletter_calls n x _ hn h0 h1 h2).mono ?_; rintro e w' ⟨rfl, rfl⟩)
  go_ret
  exact ⟨rfl, rfl⟩

/-- A right braid word. -/
def BWord (n : Int) (xs : List Int) : Prop := ∀ x ∈ xs, x ≠ 0 ∧ -n < x ∧ x < n
set_option maxRecDepth 100000 in
theorem bcheck_calls (n : Int) (v : Value) (xs : List Int) (w : World) (hv : Ints w v xs) (h1 : 1 ≤ n) (h2 : n ≤ 6) (hx : BWord n xs) (hl : xs.length ≤ 30) :
    Calls Try.prog 19 #[.int .i64 n, v] w fun e w' => e = .returned (.int .i64 0) ∧ Below w.heap.size w w' := by
  have sv := hv.isSl
  have lv := hv.len
  obtain ⟨W1, hW1⟩ : ∃ W1, W1 = w.alloc (.cells #[.int .i64 n] 3) := ⟨_, rfl⟩
  have hv1 : Ints W1 v xs := by rw [hW1]; exact hv.alloc _
  have hb1 : Below w.heap.size w W1 := by rw [hW1]; exact (Below.refl _ _).alloc (Nat.le_refl _) _
  have hc1 : W1.cell? ⟨w.heap.size, 0, none⟩ = some (.int .i64 n) := by rw [hW1]; simp [go_sem]
  have HC := Lib.hid (containsFunc_none v xs _ #[.pointer (some ⟨w.heap.size, 0, none⟩)] (enters_some (Go.Proofs.enters_of Try.func29 (by kernel_rfl) rfl)) W1 hv1
    (fun x hxm => bcheck1_calls n x w.heap.size W1 hc1 (by omega) (hx x hxm).1 (hx x hxm).2.1 (hx x hxm).2.2))
  have n1 : ¬ n < 1 := by omega
  have n2 : ¬ n > 6 := by omega
  have HW1 := Lib.hid hW1.symm; have HB1 := Lib.hid hb1
  clear hv hx hv1 hb1 hW1
  go_enter Try.func19, Try.ntmps19
  go_wp2_with fail
  rw [HW1.out]
  go_wp2_with fail
  refine HC.out.mono ?_
  rintro e w' ⟨rfl, rfl⟩
  go_wp2_with fail
  go_ret
  exact ⟨rfl, HB1.out⟩

theorem BWord.small {n : Int} {xs : List Int} (hn : n ≤ 1000) (h : BWord n xs) : ∀ x ∈ xs, -1000 ≤ x ∧ x ≤ 1000 := fun x hx => by have := h x hx; omega
theorem BWord.inv {n : Int} {xs : List Int} (h : BWord n xs) : BWord n (invL xs) := by
  intro x hx
  unfold invL at hx
  obtain ⟨y, hy, rfl⟩ := List.mem_map.1 (List.mem_reverse.1 hx)
  have := h y hy
  omega
theorem BWord.append {n : Int} {xs ys : List Int} (h : BWord n xs) (k : BWord n ys) : BWord n (xs ++ ys) := fun x hx => (List.mem_append.1 hx).elim (h x) (k x)
end Go.Proofs.Ytnmklkjlcpgjmaa


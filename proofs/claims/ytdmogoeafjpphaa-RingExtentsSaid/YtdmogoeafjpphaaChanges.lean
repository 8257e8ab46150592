/- timbmake.Changes and ringing.Check walked. -/
import Derived.Test.YtdmogoeafjpphaaRingLaw
import Derived.Test.YtdmogoeafjpphaaFree
import Derived.Test.YtdmogoeafjpphaaIdxFunc
import Derived.Shelf.Abstract
namespace Go.Proofs.Ytdmogoeafjpphaa
open Go.RowKit Go.Sl

theorem ring_enters {k : FuncId} (h : Go.Proofs.Enters Try.prog k) : ∀ args w, (callFunc k args).run Try.prog w = .ok (.enter k args) w := h
theorem fix_and : ∀ q : Fin 64, bits .and .i64 (q.val : Int) ((q.val : Int) / 2) = ((q.val &&& (q.val >>> 1) : Nat) : Int) ∧ bits .and .i64 (q.val : Int) ((q.val : Int) - 1) = (if q.val = 0 then 0 else ((q.val &&& (q.val - 1) : Nat) : Int)) := by decide +kernel
theorem fix_step : ∀ q : Fin 64, q.val &&& (q.val >>> 1) ≠ 0 → q.val ≠ 0 ∧ chgFix 7 (q.val &&& (q.val - 1)) = chgFix 7 q.val ∧ q.val &&& (q.val - 1) < q.val := by decide +kernel
theorem fix_done : ∀ q : Fin 64, q.val &&& (q.val >>> 1) = 0 → chgFix 7 q.val = q.val := by decide +kernel
theorem fix_right : ∀ q : Fin 64, chgFix 7 q.val ≤ q.val ∧ chgFix 7 q.val &&& (2 * chgFix 7 q.val) = 0 := by decide +kernel
theorem pow_wrap : ∀ m : Fin 7, IntKind.i64.wrap ((2 : Int) ^ m.val) = ((2 ^ m.val : Nat) : Int) ∧ 2 ^ m.val ≤ 64 ∧ 0 < 2 ^ m.val := by decide +kernel
/-- A right change of m + 1 bells. -/
def Chg (m : Nat) (c : Int) : Prop := ∃ q : Nat, c = q ∧ q < 2 ^ m ∧ q < 64 ∧ q &&& (2 * q) = 0
theorem chgL_right {m : Nat} (hm : m < 7) (x : Int) : Chg m (chgL (m + 1) x) := by
  have hp := pow_wrap ⟨m, hm⟩
  simp only at hp
  unfold chgL
  rw [Nat.add_sub_cancel]
  have h1 := Int.emod_nonneg x (b := ((2 ^ m : Nat) : Int)) (by omega)
  have h2 := Int.emod_lt_of_pos x (b := ((2 ^ m : Nat) : Int)) (by omega)
  obtain ⟨q, hq⟩ : ∃ q : Nat, x % ((2 ^ m : Nat) : Int) = q := ⟨(x % ((2 ^ m : Nat) : Int)).toNat, by omega⟩
  rw [hq, Int.toNat_natCast]
  have hq2 : q < 2 ^ m := by omega
  have := fix_right ⟨q, by omega⟩
  simp only at this
  exact ⟨_, rfl, by omega, by omega, this.2⟩
theorem changesL_right {m : Nat} (hm : m < 7) (raw : List Int) (most : Nat) : ∀ c ∈ changesL (m + 1) raw most, Chg m c := by
  intro c hc
  obtain ⟨x, _, rfl⟩ := List.mem_map.1 hc
  exact chgL_right hm x
theorem changesL_length (n : Nat) (raw : List Int) (most : Nat) : (changesL n raw most).length ≤ most := by unfold changesL; simp; omega
theorem apart_of : ∀ q : Fin 64, q.val &&& (2 * q.val) = 0 → ∀ j : Fin 6, q.val.testBit j.val = true → q.val.testBit (j.val + 1) = false := by decide +kernel
theorem Chg.apart {m : Nat} {c : Int} (h : Chg m c) : Apart c.toNat := by
  obtain ⟨q, rfl, -, hq, h0⟩ := h
  rw [Int.toNat_natCast]
  intro j hj
  by_cases hj6 : j < 6
  · exact apart_of ⟨q, hq⟩ h0 ⟨j, hj6⟩ hj
  · have : q < 2 ^ j := Nat.lt_of_lt_of_le hq (Nat.le_trans (by decide : 64 ≤ 2 ^ 6) (Nat.pow_le_pow_right (by omega) (by omega)))
    rw [Nat.testBit_lt_two_pow this] at hj
    cases hj

/-- What a change is to the checks. -/
theorem chg_facts : ∀ q : Fin 64, ∀ m : Fin 7, q.val < 2 ^ m.val → q.val &&& (2 * q.val) = 0 → (q.val : Int) / (2 : Int) ^ m.val = 0 ∧ IntKind.i64.wrap ((q.val : Int) * 2) = (q.val : Int) * 2 ∧ bits .and .i64 (q.val : Int) ((q.val : Int) * 2) = 0 := by decide +kernel
set_option maxRecDepth 100000 in
theorem rcheck1_calls (m : Nat) (x : Int) (B : Nat) (w : World) (hc : w.cell? ⟨B, 0, none⟩ = some (.int .i64 ((m : Int) + 1))) (hm : m < 7) (hx : Chg m x) :
    Calls Try.prog 149 #[.int .i64 x, .pointer (some ⟨B, 0, none⟩)] w fun e w' => e = .returned (.bool false) ∧ w = w' := by
  obtain ⟨q, rfl, hq1, hq2, hq3⟩ := hx
  obtain ⟨f1, f2, f3⟩ := chg_facts ⟨q, hq2⟩ ⟨m, hm⟩ hq1 hq3
  simp only at f1 f2 f3
  have hmi : ((m : Int) + 1) - 1 = (m : Int) := by omega
  have h0 : ¬ (q : Int) < 0 := by omega
  clear hq1 hq3
  go_enter Try.func149, Try.ntmps149
  go_wp2_with fail
  go_ret
  exact ⟨rfl, rfl⟩

set_option maxRecDepth 100000 in
theorem rcheck_calls (m : Nat) (v : Value) (xs : List Int) (w : World) (hv : Ints w v xs) (hm : m < 7) (hx : ∀ c ∈ xs, Chg m c) (hl : xs.length ≤ 5040) :
    Calls Try.prog 112 #[.int .i64 ((m : Int) + 1), v] w fun e w' => e = .returned (.int .i64 0) ∧ Below w.heap.size w w' := by
  have sv := hv.isSl
  have lv := hv.len
  obtain ⟨W1, hW1⟩ : ∃ W1, W1 = w.alloc (.cells #[.int .i64 ((m : Int) + 1)] 3) := ⟨_, rfl⟩
  have hv1 : Ints W1 v xs := by rw [hW1]; exact hv.alloc _
  have hb1 : Below w.heap.size w W1 := by rw [hW1]; exact (Below.refl _ _).alloc (Nat.le_refl _) _
  have hc1 : W1.cell? ⟨w.heap.size, 0, none⟩ = some (.int .i64 ((m : Int) + 1)) := by rw [hW1]; simp [go_sem]
  have HC := Lib.hid (containsFunc_none v xs _ #[.pointer (some ⟨w.heap.size, 0, none⟩)] (ring_enters (Go.Proofs.enters_of Try.func149 (by kernel_rfl) rfl)) W1 hv1
    (fun x hxm => rcheck1_calls m x w.heap.size W1 hc1 hm (hx x hxm)))
  have n1 : ¬ (m : Int) + 1 < 1 := by omega
  have n2 : ¬ (m : Int) + 1 > 7 := by omega
  have n3 : ¬ (xs.length : Int) > 5040 := by omega
  have HW1 := Lib.hid hW1.symm; have HB1 := Lib.hid hb1
  clear hv hx hv1 hb1 hW1
  go_enter Try.func112, Try.ntmps112
  go_wp2_with fail
  rw [HW1.out]
  go_wp2_with fail
  refine HC.out.mono ?_
  rintro e w' ⟨rfl, rfl⟩
  go_wp2_with fail
  go_ret
  exact ⟨rfl, HB1.out⟩
end Go.Proofs.Ytdmogoeafjpphaa

/- intmatrix.Rank walked. -/
import Derived.Test.YtdmogoeafjpphaaSolutions
import Derived.Test.YtdmogoeafjpphaaChainLaw3
namespace Go.Proofs.Ytdmogoeafjpphaa
open Go.RowKit Go.Sl

/-- The number of numbers other than 0 among the first k. -/
def nzTo (l : List Int) : Nat → Nat
  | 0 => 0
  | k + 1 => nzTo l k + if nth l k = 0 then 0 else 1
theorem nzTo_le (l : List Int) (k : Nat) : nzTo l k ≤ k := by
  induction k with
  | zero => exact Nat.le_refl _
  | succ k ih => rw [nzTo]; split <;> omega
theorem nzTo_filter (l : List Int) : ∀ k, k ≤ l.length → nzTo l k = ((l.take k).filter (fun x => x != 0)).length := by
  intro k
  induction k with
  | zero => intro _; simp [nzTo]
  | succ k ih =>
    intro hk
    rw [nzTo, ih (by omega), List.take_succ_eq_append_getElem (by omega), List.filter_append, List.length_append, nth_lt (by omega)]
    by_cases h : l[k] = 0
    · simp [h]
    · simp [h]
theorem filter_two (l : List Int) : (l.filter (fun x => x != 0)).length + (l.filter (fun x => !(x != 0))).length = l.length := by
  induction l with
  | nil => rfl
  | cons x l ih =>
    by_cases h : x = 0
    · simp [h] at ih ⊢; omega
    · simp [h] at ih ⊢; omega

set_option maxRecDepth 100000 in
theorem mrank_calls (v : Value) (xss : List (List Int)) (R C : Nat) (w : World) (hv : Rows2 w v xss) (hm : IsMat xss R C) (hR : 0 < R) (hC : 0 < C) :
    Calls Try.prog 63 #[v] w fun e w' => e = .returned (.tuple #[.int .i64 (nzTo (smithL xss R C) (smithL xss R C).length), .int .i64 0]) ∧ Below w.heap.size w w' := by
  have hck := mcheck_calls v xss R C w hv hm
  have HCK := Lib.hid hck; clear hck
  have HSM := Lib.hid (smith_calls v xss R C w hv hm hR hC)
  have hl : (smithL xss R C).length ≤ 6 := by rw [smithL_length]; have := hm.hn; omega
  obtain ⟨L, hL⟩ : ∃ L, smithL xss R C = L := ⟨_, rfl⟩
  rw [hL] at HSM hl ⊢
  have sv := hv.isSl
  clear hv hm hL
  go_enter Try.func63, Try.ntmps63
  go_wp2_with fail
  refine HCK.out.mono ?_
  rintro e w' ⟨rfl, rfl⟩
  go_wp2_with fail
  refine HSM.out.mono ?_
  rintro e w1 ⟨u, rfl, hu, hb⟩
  have su := hu.isSl
  have lu := hu.len
  have HU := Lib.hid hu; have HB := Lib.hid hb
  clear hu hb
  go_wp2_with fail
  go_loop [5, 16] (fun c j => ∃ k : Nat, k ≤ L.length ∧ j = .int .i64 k ∧ c = .int .i64 (nzTo L k)) (fun _ j => L.length - (intOf j).toNat)
  case atStart => exact ⟨0, Nat.zero_le _, rfl, rfl⟩
  case round =>
    obtain ⟨k, hk, rfl, rfl⟩ := hrel
    have hz := nzTo_le L k
    by_cases hlt : k < L.length
    · have ck := HU.out.cell hlt
      obtain ⟨x, hx⟩ : ∃ x, nth L k = x := ⟨_, rfl⟩
      have hs : nzTo L (k + 1) = nzTo L k + if x = 0 then 0 else 1 := by rw [nzTo, hx]
      rw [hx] at ck
      obtain ⟨Z, hZ⟩ : ∃ Z, nzTo L k = Z := ⟨_, rfl⟩
      rw [hZ] at hs hz ⊢
      by_cases h0 : x = 0
      · have hb0 : (x != 0) = false := by simp [h0]
        rw [if_pos h0] at hs
        have HS := Lib.hid hs; clear hs hx hZ h0
        go_wp2_with fail
        go_round
        case rel => exact ⟨k + 1, by omega, by go_num, by rw [HS.out]; rfl⟩
        case measure => simp [intOf]; omega
      · have hb0 : (x != 0) = true := by simp [h0]
        rw [if_neg h0] at hs
        have HS := Lib.hid hs; clear hs hx hZ h0
        go_wp2_with fail
        go_round
        case rel => exact ⟨k + 1, by omega, by go_num, by rw [HS.out]; go_num⟩
        case measure => simp [intOf]; omega
    · obtain rfl : k = L.length := by omega
      go_wp2_with fail
      go_ret2
      exact ⟨rfl, HB.out⟩

end Go.Proofs.Ytdmogoeafjpphaa

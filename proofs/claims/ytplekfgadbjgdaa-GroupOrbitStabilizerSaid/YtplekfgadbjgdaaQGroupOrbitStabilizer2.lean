/- The library's functions on slices of ints, walked: Index, Contains, Equal. -/
import Derived.Test.YtplekfgadbjgdaaQGroupOrbitStabilizer0
import Derived.Test.YtplekfgadbjgdaaQGroupOrbitStabilizer1
import Derived.Deep.QuietTactic
import Derived.BigQuiet
namespace Go.Proofs.Ytplekfgadbjgdaa
open Go.RowKit Go.Sl

def I64 (x : Int) : Prop := -9223372036854775808 ≤ x ∧ x ≤ 9223372036854775807
theorem nth_mem {xs : List Int} {k : Nat} (h : k < xs.length) : nth xs k ∈ xs := by rw [nth_lt h]; exact List.getElem_mem h

theorem Below.chain {a b c : World} (h : Below a.heap.size a b) (k : Below b.heap.size b c) : Below a.heap.size a c := h.trans (k.mono h.size)
/-- The first place of a number, or -1. -/
def idxOf (xs : List Int) (x : Int) : Int := if x ∈ xs then (xs.idxOf x : Int) else -1
theorem idxOf_bounds (xs : List Int) (x : Int) : -1 ≤ idxOf xs x ∧ idxOf xs x < xs.length := by
  unfold idxOf; split
  · rename_i h; have := List.idxOf_lt_length_of_mem h; omega
  · omega
theorem idxOf_hit (xs : List Int) (x : Int) (k : Nat) (hk : k < xs.length) (h : nth xs k = x) (hno : ∀ j, j < k → nth xs j ≠ x) : idxOf xs x = k := by
  have hm : x ∈ xs := h ▸ nth_mem hk
  unfold idxOf; rw [if_pos hm]
  have hlt := List.idxOf_lt_length_of_mem hm
  have hget : xs[xs.idxOf x] = x := List.getElem_idxOf hlt
  have h1 : ¬ xs.idxOf x < k := fun hl => hno _ hl (by rw [nth_lt hlt]; exact hget)
  have h2 : ¬ k < xs.idxOf x := fun hl => by
    have := List.not_of_lt_findIdx (p := (· == x)) (xs := xs) (i := k) (by simpa [List.idxOf] using hl)
    rw [nth_lt hk] at h
    simp [h] at this
  omega
theorem idxOf_none (xs : List Int) (x : Int) (hno : ∀ j, j < xs.length → nth xs j ≠ x) : idxOf xs x = -1 := by
  unfold idxOf; rw [if_neg]
  intro hm
  obtain ⟨j, hj, rfl⟩ := List.getElem_of_mem hm
  exact hno j hj (nth_lt hj)

theorem index_calls (v : Value) (xs : List Int) (x : Int) (w : World) (hv : Ints w v xs) :
    Calls Try.prog 60 #[v, .int .i64 x] w fun e w' => e = .returned (.int .i64 (idxOf xs x)) ∧ w = w' := by
  have sv := hv.isSl
  have lv := hv.len
  have i63 := sv.i63
  rw [lv] at i63
  have HV := Lib.hid hv; clear hv
  go_enter Try.func60, Try.ntmps60
  go_wp2_with fail
  go_loop [8] (fun i => ∃ k : Nat, k ≤ xs.length ∧ i = .int .i64 k ∧ ∀ j, j < k → nth xs j ≠ x) (fun i => xs.length - (intOf i).toNat)
  case atStart => exact ⟨0, Nat.zero_le _, rfl, by intro j hj; omega⟩
  case round =>
    obtain ⟨k, hk, rfl, hno⟩ := hrel
    have HN := Lib.hid hno; clear hno
    by_cases hlt : k < xs.length
    · have c1 := HV.out.cell hlt
      by_cases heq : x = nth xs k
      · have he : (x == nth xs k) = true := by simp [heq]
        have hfin := idxOf_hit xs x k hlt heq.symm HN.out
        have HF := Lib.hid hfin; clear hfin heq
        go_wp2_with fail
        go_ret
        exact ⟨by rw [HF.out]; rfl, rfl⟩
      · have he : (x == nth xs k) = false := by simp [heq]
        clear heq
        have HE := Lib.hid he
        go_wp2_with fail
        go_round
        case rel => exact ⟨k + 1, by omega, by go_num, fun j hj => by
          rcases Nat.lt_or_ge j k with h | h
          · exact HN.out j h
          · have e : j = k := by omega
            subst e
            have h2 := HE.out
            simp at h2
            exact fun h => h2 h.symm⟩
        case measure => simp [intOf]; omega
    · have hfin := idxOf_none xs x (fun j hj => HN.out j (by omega))
      have HF := Lib.hid hfin; clear hfin
      go_wp2_with fail
      go_ret
      exact ⟨by rw [HF.out]; rfl, rfl⟩

theorem contains_calls (v : Value) (xs : List Int) (x : Int) (w : World) (hv : Ints w v xs) :
    Calls Try.prog 54 #[v, .int .i64 x] w fun e w' => e = .returned (.bool (decide (x ∈ xs))) ∧ w = w' := by
  have hb := idxOf_bounds xs x
  have he : decide (0 ≤ idxOf xs x) = decide (x ∈ xs) := by
    unfold idxOf; split <;> simp [*]
  have HE := Lib.hid he; clear he
  go_enter Try.func54, Try.ntmps54
  go_wp2_with (go_at_call 60; refine (index_calls _ xs x _ hv).mono ?_; rintro e w' ⟨rfl, rfl⟩)
  go_ret
  exact ⟨by rw [← HE.out]; rfl, rfl⟩

theorem contains_no (v : Value) (xs : List Int) (x : Int) (w : World) (hv : Ints w v xs) (h : ¬ x ∈ xs) :
    Calls Try.prog 54 #[v, .int .i64 x] w fun e w' => e = .returned (.bool false) ∧ w = w' :=
  (contains_calls v xs x w hv).mono fun e w' ⟨h1, h2⟩ => ⟨by rw [h1, decide_eq_false h], h2⟩
end Go.Proofs.Ytplekfgadbjgdaa


/- The library's functions on slices of ints, walked: Index, Contains, Equal. -/
import Derived.Test.YtnmklkjlcpgjmaaQTopWordProblem0
import Derived.Test.YtnmklkjlcpgjmaaQTopWordProblem1
import Derived.Deep.QuietTactic
import Derived.BigQuiet
namespace Go.Proofs.Ytnmklkjlcpgjmaa
open Go.RowKit Go.Sl

def I64 (x : Int) : Prop := -9223372036854775808 ≤ x ∧ x ≤ 9223372036854775807
theorem nth_mem {xs : List Int} {k : Nat} (h : k < xs.length) : nth xs k ∈ xs := by rw [nth_lt h]; exact List.getElem_mem h

theorem Below.chain {a b c : World} (h : Below a.heap.size a b) (k : Below b.heap.size b c) : Below a.heap.size a c := h.trans (k.mono h.size)
theorem Below.drawn {w : World} (q : Nat) : Below w.heap.size w (w.drewN q) := ⟨rfl, rfl, rfl, Nat.le_refl _, fun _ _ => rfl⟩

/-- The first place of a number, or -1. -/
def idxOf (xs : List Int) (x : Int) : Int := if x ∈ xs then (xs.idxOf x : Int) else -1
theorem idxOf_hit (xs : List Int) (x : Int) (k : Nat) (hk : k < xs.length) (h : nth xs k = x) (hno : ∀ j, j < k → nth xs j ≠ x) : idxOf xs x = k := by
  have hm : x ∈ xs := h ▸ nth_mem hk
  unfold idxOf; rw [if_pos hm]
  have hlt := List.idxOf_lt_length_of_mem hm
  have hget : xs[xs.idxOf x] = x := List.getElem_idxOf hlt
  have h1 : ¬ xs.idxOf x < k := fun hl => hno _ hl (by rw [nth_lt hlt]; exact hget)
  have h2 : ¬ k < xs.idxOf x := fun hl => by
    have := List.not_of_lt_findIdx (p := (· == x)) (xs := xs) (i := k) (by simpa [List.idxOf] using hl)
    rw [nth_lt hk] at h
    simp [h] at this
  omega
theorem idxOf_none (xs : List Int) (x : Int) (hno : ∀ j, j < xs.length → nth xs j ≠ x) : idxOf xs x = -1 := by
  unfold idxOf; rw [if_neg]
  intro hm
  obtain ⟨j, hj, rfl⟩ := List.getElem_of_mem hm
  exact hno j hj (nth_lt hj)

theorem index_calls (v : Value) (xs : List Int) (x : Int) (w : World) (hv : Ints w v xs) :
    Calls Try.prog 45 #[v, .int .i64 x] w fun e w' => e = .returned (.int .i64 (idxOf xs x)) ∧ w = w' := by
  have sv := hv.isSl
  have lv := hv.len
  have i63 := sv.i63
  rw [lv] at i63
  have HV := Lib.hid hv; clear hv
  go_enter Try.func45, Try.ntmps45
  go_wp2_with fail
  go_loop [8] (fun i => ∃ k : Nat, k ≤ xs.length ∧ i = .int .i64 k ∧ ∀ j, j < k → nth xs j ≠ x) (fun i => xs.length - (intOf i).toNat)
  case atStart => exact ⟨0, Nat.zero_le _, rfl, by intro j hj; omega⟩
  case round =>
    obtain ⟨k, hk, rfl, hno⟩ := hrel
    have HN := Lib.hid hno; clear hno
    by_cases hlt : k < xs.length
    · have c1 := HV.out.cell hlt
      by_cases heq : x = nth xs k
      · have he : (x == nth xs k) = true := by simp [heq]
        have hfin := idxOf_hit xs x k hlt heq.symm HN.out
        have HF := Lib.hid hfin; clear hfin heq
        go_wp2_with fail
        go_ret
        exact ⟨by rw [HF.out]; rfl, rfl⟩
      · have he : (x == nth xs k) = false := by simp [heq]
        clear heq
        have HE := Lib.hid he
        go_wp2_with fail
        go_round
        case rel => exact ⟨k + 1, by omega, by go_num, fun j hj => by
          rcases Nat.lt_or_ge j k with h | h
          · exact HN.out j h
          · have e : j = k := by omega
            subst e
            have h2 := HE.out
            simp at h2
            exact fun h => h2 h.symm⟩
        case measure => simp [intOf]; omega
    · have hfin := idxOf_none xs x (fun j hj => HN.out j (by omega))
      have HF := Lib.hid hfin; clear hfin
      go_wp2_with fail
      go_ret
      exact ⟨by rw [HF.out]; rfl, rfl⟩

theorem equal_calls (a b : Value) (xs ys : List Int) (w : World) (ha : Ints w a xs) (hb : Ints w b ys) :
    Calls Try.prog 24 #[a, b] w fun e w' => e = .returned (.bool (decide (xs = ys))) ∧ Below w.heap.size w w' := by
  have sa := ha.isSl
  have la := ha.len
  have sb := hb.isSl
  have lb := hb.len
  have i63 := sa.i63
  rw [la] at i63
  have HA := Lib.hid ha; clear ha
  have HB := Lib.hid hb; clear hb
  by_cases hl : xs.length = ys.length
  · have h0 : ((xs.length : Int) != (ys.length : Int)) = false := by simp [hl]
    have HL := Lib.hid hl; clear hl
    go_enter Try.func24, Try.ntmps24
    go_wp2_with fail
    go_loopw [13] (fun i wr => ∃ k : Nat, k ≤ xs.length ∧ i = .int .i64 k ∧ (∀ j, j < k → nth xs j = nth ys j) ∧ Below w.heap.size w wr) (fun i _ => xs.length - (intOf i).toNat)
    case atStart => exact ⟨0, Nat.zero_le _, rfl, by intro j hj; omega, Below.refl _ _⟩
    case round =>
      obtain ⟨k, hk, rfl, hno, hbr⟩ := hrel
      have HN := Lib.hid hno; clear hno
      by_cases hlt : k < xs.length
      · have hlt' : k < ys.length := by have := HL.out; omega
        have c1 := (HA.out.below hbr).cell hlt
        have c2 := (HB.out.below hbr).cell hlt'
        have HBR := Lib.hid hbr; clear hbr
        by_cases heq : nth xs k = nth ys k
        · have he : (nth xs k != nth ys k) = false := by simp [heq]
          have HE := Lib.hid heq; clear heq
          go_wp2_with fail
          go_quiet (fail)
          go_wp2_with fail
          go_roundw
          case rel => exact ⟨k + 1, by omega, by go_num, fun j hj => by
            rcases Nat.lt_or_ge j k with h | h
            · exact HN.out j h
            · have e : j = k := by omega
              subst e
              exact HE.out, Below.trans HBR.out (Below.drawn _ |>.mono HBR.out.size)⟩
          case measure => simp [intOf]; omega
        · have he : (nth xs k != nth ys k) = true := by simp [heq]
          have hne : ¬ xs = ys := fun h => heq (by rw [h])
          have HE := Lib.hid hne; clear hne heq
          go_wp2_with fail
          go_quiet (fail)
          go_wp2_with fail
          go_ret
          exact ⟨by rw [decide_eq_false HE.out]; rfl, Below.trans HBR.out (Below.drawn _ |>.mono HBR.out.size)⟩
      · have he : xs = ys := by
          have hl := HL.out
          apply List.ext_getElem hl
          intro j h1 h2
          have := HN.out j (by omega)
          rwa [nth_lt h1, nth_lt h2] at this
        have HE := Lib.hid he; clear he
        go_wp2_with fail
        go_ret
        exact ⟨by rw [decide_eq_true HE.out]; rfl, hbr⟩
  · have h0 : ((xs.length : Int) != (ys.length : Int)) = true := by rw [bne_iff_ne]; omega
    have hne : ¬ xs = ys := fun h => hl (by rw [h])
    have HE := Lib.hid hne; clear hne hl
    go_enter Try.func24, Try.ntmps24
    go_wp2_with fail
    go_ret
    exact ⟨by rw [decide_eq_false HE.out]; rfl, Below.refl _ _⟩

end Go.Proofs.Ytnmklkjlcpgjmaa


/- The library's functions on slices of ints, walked: Index, Contains, Equal. -/
import Derived.Test.YtckopilciekfbaaQColorDet0
import Derived.Test.YtckopilciekfbaaQColorDet1
import Derived.Deep.QuietTactic
import Derived.BigQuiet
namespace Go.Proofs.Ytckopilciekfbaa
open Go.RowKit Go.Sl

def I64 (x : Int) : Prop := -9223372036854775808 ≤ x ∧ x ≤ 9223372036854775807
theorem nth_mem {xs : List Int} {k : Nat} (h : k < xs.length) : nth xs k ∈ xs := by rw [nth_lt h]; exact List.getElem_mem h

theorem Below.chain {a b c : World} (h : Below a.heap.size a b) (k : Below b.heap.size b c) : Below a.heap.size a c := h.trans (k.mono h.size)
theorem Below.drawn {w : World} (q : Nat) : Below w.heap.size w (w.drewN q) := ⟨rfl, rfl, rfl, Nat.le_refl _, fun _ _ => rfl⟩

theorem equal_calls (a b : Value) (xs ys : List Int) (w : World) (ha : Ints w a xs) (hb : Ints w b ys) :
    Calls Try.prog 36 #[a, b] w fun e w' => e = .returned (.bool (decide (xs = ys))) ∧ Below w.heap.size w w' := by
  have sa := ha.isSl
  have la := ha.len
  have sb := hb.isSl
  have lb := hb.len
  have i63 := sa.i63
  rw [la] at i63
  have HA := Lib.hid ha; clear ha
  have HB := Lib.hid hb; clear hb
  by_cases hl : xs.length = ys.length
  · have h0 : ((xs.length : Int) != (ys.length : Int)) = false := by simp [hl]
    have HL := Lib.hid hl; clear hl
    go_enter Try.func36, Try.ntmps36
    go_wp2_with fail
    go_loopw [13] (fun i wr => ∃ k : Nat, k ≤ xs.length ∧ i = .int .i64 k ∧ (∀ j, j < k → nth xs j = nth ys j) ∧ Below w.heap.size w wr) (fun i _ => xs.length - (intOf i).toNat)
    case atStart => exact ⟨0, Nat.zero_le _, rfl, by intro j hj; omega, Below.refl _ _⟩
    case round =>
      obtain ⟨k, hk, rfl, hno, hbr⟩ := hrel
      have HN := Lib.hid hno; clear hno
      by_cases hlt : k < xs.length
      · have hlt' : k < ys.length := by have := HL.out; omega
        have c1 := (HA.out.below hbr).cell hlt
        have c2 := (HB.out.below hbr).cell hlt'
        have HBR := Lib.hid hbr; clear hbr
        by_cases heq : nth xs k = nth ys k
        · have he : (nth xs k != nth ys k) = false := by simp [heq]
          have HE := Lib.hid heq; clear heq
          go_wp2_with fail
          go_quiet (fail)
          go_wp2_with fail
          go_roundw
          case rel => exact ⟨k + 1, by omega, by go_num, fun j hj => by
            rcases Nat.lt_or_ge j k with h | h
            · exact HN.out j h
            · have e : j = k := by omega
              subst e
              exact HE.out, Below.trans HBR.out (Below.drawn _ |>.mono HBR.out.size)⟩
          case measure => simp [intOf]; omega
        · have he : (nth xs k != nth ys k) = true := by simp [heq]
          have hne : ¬ xs = ys := fun h => heq (by rw [h])
          have HE := Lib.hid hne; clear hne heq
          go_wp2_with fail
          go_quiet (fail)
          go_wp2_with fail
          go_ret
          exact ⟨by rw [decide_eq_false HE.out]; rfl, Below.trans HBR.out (Below.drawn _ |>.mono HBR.out.size)⟩
      · have he : xs = ys := by
          have hl := HL.out
          apply List.ext_getElem hl
          intro j h1 h2
          have := HN.out j (by omega)
          rwa [nth_lt h1, nth_lt h2] at this
        have HE := Lib.hid he; clear he
        go_wp2_with fail
        go_ret
        exact ⟨by rw [decide_eq_true HE.out]; rfl, hbr⟩
  · have h0 : ((xs.length : Int) != (ys.length : Int)) = true := by rw [bne_iff_ne]; omega
    have hne : ¬ xs = ys := fun h => hl (by rw [h])
    have HE := Lib.hid hne; clear hne hl
    go_enter Try.func36, Try.ntmps36
    go_wp2_with fail
    go_ret
    exact ⟨by rw [decide_eq_false HE.out]; rfl, Below.refl _ _⟩

theorem equal_yes (a b : Value) (xs ys : List Int) (w : World) (ha : Ints w a xs) (hb : Ints w b ys) (h : xs = ys) :
    Calls Try.prog 36 #[a, b] w fun e w' => e = .returned (.bool true) ∧ Below w.heap.size w w' :=
  (equal_calls a b xs ys w ha hb).mono fun e w' ⟨h1, h2⟩ => ⟨by rw [h1, decide_eq_true h], h2⟩

end Go.Proofs.Ytckopilciekfbaa


/- ringing.changeOf walked. -/
import Derived.Shelf.Small.Strs
import Derived.Test.YtpnbkoihglppnaaParseLaw
namespace Go.Proofs.Ytpnbkoihglppnaa
open Go.Shelf Go.RowKit Go.Sl

def renI : Go.Shelf.Ren := ⟨fun | 137 => 123 | 217 => 143 | 266 => 150 | n => n, fun | 9 => 9 | 5 => 5 | 3 => 3 | n => n, fun | n => n⟩
theorem laysI : Go.Proofs.Lays.n137 Try.prog renI := {
  mixed := by kernel_rfl
  f137 := Try.func123.trans (congrArg some (by kernel_rfl))
  f217 := Try.func143.trans (congrArg some (by kernel_rfl))
  f266 := Try.func150.trans (congrArg some (by kernel_rfl))
  t3 := Try.underlying3
  a3 := Try.isAgg3
  z3 := Try.sizeOf3
  v3 := Try.zeroValue3
  t5 := Try.underlying5
  a5 := Try.isAgg5
  z5 := Try.sizeOf5
  v5 := Try.zeroValue5
  t9 := Try.underlying9
  a9 := Try.isAgg9
  z9 := Try.sizeOf9
  v9 := Try.zeroValue9 }
theorem index_has (l : List UInt8) (c : UInt8) : (0 ≤ Lib.indexByte l c) ↔ l.contains c = true := by
  induction l with
  | nil => simp [Lib.indexByte]
  | cons b l ih =>
    have hge := Lib.indexByte_ge l c
    rw [Lib.indexByte, List.contains_cons]
    by_cases h : b = c
    · subst h; simp
    · have h1 : (b == c) = false := by simpa using h
      have h2 : (c == b) = false := by simpa using Ne.symm h
      rw [h1, h2, Bool.false_or, ← ih]
      by_cases h3 : Lib.indexByte l c = -1
      · rw [h3]; simp
      · have h4 : (Lib.indexByte l c == -1) = false := by simpa using h3
        rw [h4]
        simp
        omega
theorem indexByte_has (l : List UInt8) (k : Nat) (hk : k < 8) (w : World) :
    Calls Try.prog 123 #[.string ⟨l.toArray⟩, .int .u8 (49 + (k : Int))] w fun e w' => (∃ i : Int, e = .returned (.int .i64 i) ∧ (0 ≤ i ↔ has l k = true)) ∧ w = w' := by
  refine (Any.strings_IndexByte laysI ⟨l.toArray⟩ (49 + (k : Int)) w).mono ?_
  rintro e w' ⟨rfl, rfl⟩
  refine ⟨⟨_, rfl, ?_⟩, rfl⟩
  have e1 : ((49 + (k : Int)).toNat).toUInt8 = UInt8.ofNat (49 + k) := by
    rw [show (49 + (k : Int)).toNat = 49 + k by omega]
  rw [e1]
  exact index_has l _

theorem ret_bool_false {i : Int} (h : ¬ 0 ≤ i) : Ending.returned (.bool (decide (0 ≤ i))) = .returned (.bool false) := by rw [decide_eq_false h]
set_option maxRecDepth 100000 in
theorem stays_calls (l : List UInt8) (z : Int) (k : Nat) (hz : z = k) (hk : k < 8) (B : Nat) (w : World) (hc : w.cell? ⟨B, 0, none⟩ = some (.string ⟨l.toArray⟩)) :
    Calls Try.prog 122 #[.int .i64 z, .pointer (some ⟨B, 0, none⟩)] w fun e w' => e = .returned (.bool (has l k)) ∧ w = w' := by
  subst hz
  have hwu : IntKind.u8.wrap (49 + (k : Int)) = 49 + (k : Int) := IntWalk.u8_in _ (by omega)
  have HI := Lib.hid (indexByte_has l k hk w)
  obtain ⟨b, hb⟩ : ∃ b, has l k = b := ⟨_, rfl⟩
  rw [hb] at HI ⊢
  clear hb
  go_enter Try.func122, Try.ntmps122
  go_wp2_with fail
  refine HI.out.mono ?_
  rintro e w' ⟨⟨i, rfl, hi⟩, rfl⟩
  cases b with
  | true =>
    have hi0 : 0 ≤ i := hi.2 rfl
    clear hi HI
    go_wp2_with fail
    go_ret
    exact ⟨rfl, rfl⟩
  | false =>
    have hi0 : ¬ 0 ≤ i := fun h => by simpa using hi.1 h
    have hi1 : i < 0 := by omega
    clear hi HI
    go_wp2_with fail
    go_ret
    exact ⟨ret_bool_false (by omega), rfl⟩

theorem or_fact : ∀ o : Fin 64, ∀ i : Fin 6, bits .or .i64 (o.val : Int) ((2 : Int) ^ i.val) = ((o.val ||| 2 ^ i.val : Nat) : Int) ∧ o.val ||| 2 ^ i.val < 64 ∧ IntKind.i64.wrap ((2 : Int) ^ i.val) = (2 : Int) ^ i.val := by decide +kernel

set_option maxRecDepth 100000 in
set_option maxHeartbeats 2000000 in
theorem changeOf_calls (m : Nat) (l : List UInt8) (w : World) (hm : m < 7) :
    Calls Try.prog 84 #[.int .i64 ((m : Int) + 1), .string ⟨l.toArray⟩] w fun e w' => e = .returned (.int .i64 (chgOf m l : Nat)) ∧ Below w.heap.size w w' := by
  have hmi : ((m : Int) + 1) - 1 = (m : Int) := by omega
  obtain ⟨W1, hW1⟩ : ∃ W1, W1 = w.alloc (.cells #[.string ⟨l.toArray⟩] 9) := ⟨_, rfl⟩
  have hb1 : Below w.heap.size w W1 := by rw [hW1]; exact (Below.refl _ _).alloc (Nat.le_refl _) _
  have hc1 : W1.cell? ⟨w.heap.size, 0, none⟩ = some (.string ⟨l.toArray⟩) := by rw [hW1]; simp [go_sem]
  obtain ⟨R, hR⟩ : ∃ R, R = chgOf m l := ⟨_, rfl⟩
  rw [← hR]
  have HW1 := Lib.hid hW1.symm; have HB1 := Lib.hid hb1; have HR := Lib.hid hR
  clear hW1 hb1 hR
  go_enter Try.func84, Try.ntmps84
  go_wp2_with fail
  rw [HW1.out]
  go_loop [5, 6] (fun x y => ∃ (f i o : Nat), m ≤ i + f ∧ i ≤ m + 1 ∧ o < 64 ∧ x = .int .i64 o ∧ y = .int .i64 i ∧ (i < m ∨ True) ∧ chgGo (has l) m (f + 1) i o = R) (fun _ y => m + 1 - (intOf y).toNat)
  case atStart => exact ⟨6, 0, 0, by omega, by omega, by omega, rfl, rfl, .inr trivial, HR.out.symm⟩
  case round =>
    obtain ⟨f, i, o, hf, him, ho, rfl, rfl, -, he⟩ := hrel
    rw [chgGo] at he
    by_cases hi : i < m
    · rw [if_pos hi] at he
      obtain ⟨g, rfl⟩ : ∃ g, f = g + 1 := ⟨f - 1, by omega⟩
      obtain ⟨ho1, ho2, ho3⟩ := or_fact ⟨o, ho⟩ ⟨i, by omega⟩
      simp only at ho1 ho2 ho3
      have hii : (((i + 1 : Nat) : Int)) = (i : Int) + 1 := by omega
      cases h1 : has l i with
      | true =>
        rw [h1, Bool.true_or, if_pos rfl] at he
        have H1 := Lib.hid h1; have HE := Lib.hid he
        clear h1 he
        go_wp2_with fail
        refine (stays_calls l _ i rfl (by omega) w.heap.size _ hc1).mono ?_
        rintro e w' ⟨rfl, rfl⟩
        rw [H1.out]
        go_wp2_with fail
        go_round
        case rel => exact ⟨g, i + 1, o, by omega, by omega, ho, rfl, by go_num, .inr trivial, HE.out⟩
        case measure => simp [intOf]; omega
      | false =>
        rw [h1, Bool.false_or] at he
        cases h2 : has l (i + 1) with
        | true =>
          rw [h2, if_pos rfl] at he
          have H1 := Lib.hid h1; have H2 := Lib.hid h2; have HE := Lib.hid he
          clear h1 h2 he
          go_wp2_with fail
          refine (stays_calls l _ i rfl (by omega) w.heap.size _ hc1).mono ?_
          rintro e w' ⟨rfl, rfl⟩
          rw [H1.out]
          go_wp2_with fail
          refine (stays_calls l _ (i + 1) (by omega) (by omega) w.heap.size _ hc1).mono ?_
          rintro e w' ⟨rfl, rfl⟩
          rw [H2.out]
          go_wp2_with fail
          go_round
          case rel => exact ⟨g, i + 1, o, by omega, by omega, ho, rfl, by go_num, .inr trivial, HE.out⟩
          case measure => simp [intOf]; omega
        | false =>
          rw [h2, if_neg (by simp)] at he
          have H1 := Lib.hid h1; have H2 := Lib.hid h2
          obtain ⟨p, hp⟩ : ∃ p, o ||| 2 ^ i = p := ⟨_, rfl⟩
          rw [hp] at he ho1 ho2
          have he2 : chgGo (has l) m (g + 1) (i + 2) p = R := he
          have HE := Lib.hid he2
          have hi2 : IntKind.i64.wrap ((i : Int) + 1 + 1) = (i : Int) + 1 + 1 := IntWalk.i64_in _ (by omega)
          clear h1 h2 he he2 hp
          go_wp2_with fail
          refine (stays_calls l _ i rfl (by omega) w.heap.size _ hc1).mono ?_
          rintro e w' ⟨rfl, rfl⟩
          rw [H1.out]
          go_wp2_with fail
          refine (stays_calls l _ (i + 1) (by omega) (by omega) w.heap.size _ hc1).mono ?_
          rintro e w' ⟨rfl, rfl⟩
          rw [H2.out]
          go_wp2_with fail
          go_round
          case rel => exact ⟨g, i + 2, p, by omega, by omega, ho2, rfl, by go_num, .inr trivial, HE.out⟩
          case measure => simp [intOf]; omega
    · rw [if_neg hi] at he
      subst he
      go_wp2_with fail
      go_ret
      exact ⟨rfl, HB1.out⟩
end Go.Proofs.Ytpnbkoihglppnaa

/- dehornoy.handle and sign walked: the handle that ends first. -/
import Derived.Test.YtnmklkjlcpgjmaaQDehornoyRelations0
import Derived.Test.YtnmklkjlcpgjmaaQDehornoyRelations1
import Derived.Test.YtnmklkjlcpgjmaaQDehornoyRelations2
import Derived.Test.YtnmklkjlcpgjmaaQDehornoyRelations3
import Derived.Test.YtnmklkjlcpgjmaaQDehornoyRelations4
import Derived.Test.YtnmklkjlcpgjmaaQDehornoyRelations8
import Derived.Test.YtnmklkjlcpgjmaaQDehornoyRelations9
import Derived.Test.YtnmklkjlcpgjmaaQDehornoyRelations10
import Derived.Test.YtnmklkjlcpgjmaaQDehornoyRelations11
import Derived.Test.YtnmklkjlcpgjmaaQDehornoyRelations12
import Derived.Test.YtnmklkjlcpgjmaaQDehornoyRelations13
import Derived.Deep.RegionLaw
namespace Go.Proofs.Ytnmklkjlcpgjmaa
open Go.RowKit Go.Sl

/-! ### Places -/
theorem take_split {xs : List Int} {i j : Nat} (h : i < j) (hj : j ≤ xs.length) : xs.take j = xs.take i ++ nth xs i :: (xs.take j).drop (i + 1) := by
  have h1 : (xs.take j) = (xs.take j).take i ++ (xs.take j).drop i := (List.take_append_drop i _).symm
  have h2 : (xs.take j).take i = xs.take i := by rw [List.take_take, Nat.min_eq_left (by omega)]
  have h3 : (xs.take j).drop i = nth xs i :: (xs.take j).drop (i + 1) := by
    have hl : i < (xs.take j).length := by simp; omega
    rw [List.drop_eq_getElem_cons hl]
    congr 1
    rw [List.getElem_take, nth_lt (by omega)]
  rw [h2, h3] at h1
  exact h1
theorem mem_between {xs : List Int} {i j : Nat} (hj : j ≤ xs.length) {z : Int} (h : z ∈ (xs.take j).drop (i + 1)) : ∃ k, i < k ∧ k < j ∧ nth xs k = z := by
  obtain ⟨k, hk, rfl⟩ := List.getElem_of_mem h
  simp only [List.length_drop, List.length_take] at hk
  refine ⟨i + 1 + k, by omega, by omega, ?_⟩
  rw [List.getElem_drop, List.getElem_take, nth_lt (by omega)]
theorem close_pos {xs : List Int} {i j : Nat} (h : i < j) (hj : j ≤ xs.length) {y : Int} (hm : ∀ k, i < k → k < j → y.natAbs < (nth xs k).natAbs) (e : nth xs i = -y) : ∃ M, xs.take j = xs.take i ++ (-y) :: M ∧ M = (xs.take j).drop (i + 1) ∧ ∀ z ∈ M, y.natAbs < z.natAbs :=
  ⟨_, by rw [take_split h hj, e]; congr 2; rw [← e, ← take_split h hj], rfl, fun z hz => by
    obtain ⟨k, h1, h2, rfl⟩ := mem_between hj hz
    exact hm k h1 h2⟩
theorem not_close {xs : List Int} {j : Nat} (hj : j ≤ xs.length) {y : Int} (hc : closeAt (xs.take j) y) : ∃ i, i < j ∧ nth xs i = -y ∧ ∀ k, i < k → k < j → y.natAbs < (nth xs k).natAbs := by
  obtain ⟨P, M, e, hM⟩ := hc
  have hl := congrArg List.length e
  simp only [List.length_take, List.length_append, List.length_cons] at hl
  have hat : ∀ k, k < j → nth xs k = nth (xs.take j) k := fun k hk => by rw [nth_lt (by omega), nth_lt (by simp; omega), List.getElem_take]
  refine ⟨P.length, by omega, ?_, fun k h1 h2 => ?_⟩
  · rw [hat _ (by omega), e]
    simp [nth]
  · rw [hat _ h2, e]
    obtain ⟨c, rfl⟩ : ∃ c, k = P.length + (c + 1) := ⟨k - P.length - 1, by omega⟩
    have : nth (P ++ -y :: M) (P.length + (c + 1)) = nth M c := by
      unfold nth
      rw [List.getD_eq_getElem?_getD, List.getElem?_append_right (by omega), Nat.add_sub_cancel_left, List.getElem?_cons_succ, ← List.getD_eq_getElem?_getD]
    rw [this]
    exact hM _ (nth_mem (by omega))
theorem clean_take {xs : List Int} {j : Nat} (hj : j < xs.length) (h : Clean (xs.take j)) (hn : ¬ closeAt (xs.take j) (nth xs j)) : Clean (xs.take (j + 1)) := by
  rw [List.take_succ_eq_append_getElem hj, ← nth_lt hj]
  exact clean_snoc h hn

set_option maxRecDepth 100000 in
set_option maxHeartbeats 4000000 in
/-- The handle that ends first. -/
theorem handle_calls (v : Value) (xs : List Int) (w : World) (hv : Ints w v xs) (hb : ∀ x ∈ xs, x ≠ 0 ∧ -1000 ≤ x ∧ x ≤ 1000) :
    Calls Try.prog 47 #[v] w fun e w' => w = w' ∧ ((Clean xs ∧ e = .returned (.tuple #[.int .i64 0, .int .i64 0, .bool false])) ∨
      ∃ P x M s, xs = P ++ x :: M ++ (-x) :: s ∧ Clean (P ++ x :: M) ∧ (∀ y ∈ M, x.natAbs < y.natAbs) ∧ e = .returned (.tuple #[.int .i64 (P.length : Nat), .int .i64 (P.length + 1 + M.length : Nat), .bool true])) := by
  have sv := hv.isSl
  have lv := hv.len
  have i63 := sv.i63
  obtain ⟨L, hL⟩ : ∃ L, xs.length = L := ⟨_, rfl⟩
  rw [hL] at lv
  rw [lv] at i63
  have HV := Lib.hid hv; have HB := Lib.hid hb; have HL := Lib.hid hL
  clear hv hb hL
  go_enter Try.func47, Try.ntmps47
  go_wp2_with fail
  go_loop [10] (fun s => ∃ j : Nat, s = .int .i64 j ∧ j ≤ L ∧ Clean (xs.take j)) (fun s => L - (intOf s).toNat)
  case atStart => exact ⟨0, rfl, Nat.zero_le _, by simpa using clean_nil⟩
  case round =>
    obtain ⟨j, rfl, hj, hc⟩ := hrel
    have HC := Lib.hid hc
    clear hc
    by_cases hlt : j < L
    · have hjx : j < xs.length := by rw [HL.out]; exact hlt
      have cy := HV.out.cell hjx
      obtain ⟨y, hy⟩ : ∃ y, nth xs j = y := ⟨_, rfl⟩
      obtain ⟨hy0, hy1, hy2⟩ := HB.out _ (nth_mem hjx)
      rw [hy] at cy hy0 hy1 hy2
      have HY := Lib.hid hy
      clear hy
      go_wp2_with fail
      go_loop [7] (fun s => ∃ (i : Nat) (z : Int), s = .int .i64 z ∧ z = (i : Int) - 1 ∧ i ≤ j ∧ ∀ k, i ≤ k → k < j → y.natAbs < (nth xs k).natAbs) (fun s => (intOf s + 1).toNat)
      case atStart => exact ⟨j, _, rfl, by omega, Nat.le_refl _, fun k h1 h2 => by omega⟩
      case round =>
        obtain ⟨i, z, rfl, hz, hij, hbig⟩ := hrel
        have HBG := Lib.hid hbig
        clear hbig
        by_cases h0 : 0 < i
        · obtain ⟨q, rfl⟩ : ∃ q, i = q + 1 := ⟨i - 1, by omega⟩
          obtain rfl : z = (q : Int) := by omega
          have hqx : q < xs.length := by omega
          have cx := HV.out.cell hqx
          obtain ⟨x, hx⟩ : ∃ x, nth xs q = x := ⟨_, rfl⟩
          obtain ⟨hx0, hx1, hx2⟩ := HB.out _ (nth_mem hqx)
          rw [hx] at cx hx0 hx1 hx2
          have HX := Lib.hid hx
          clear hx hz
          go_wp2_with fail
          refine (bindex_calls x _ hx1 hx2).mono ?_
          rintro e w' ⟨rfl, rfl⟩
          go_wp2_with fail
          refine (bindex_calls y _ hy1 hy2).mono ?_
          rintro e w' ⟨rfl, rfl⟩
          by_cases hgt : y.natAbs < x.natAbs
          · have hg2 : (x.natAbs : Int) > (y.natAbs : Int) := by omega
            go_wp2_with fail
            go_round
            case rel => exact ⟨q, _, rfl, rfl, by omega, fun k h1 h2 => by
              by_cases e : k = q
              · subst e; rw [HX.out]; exact hgt
              · exact HBG.out k (by omega) h2⟩
            case measure => (simp [intOf]; try omega)
          · have hg2 : ¬ (x.natAbs : Int) > (y.natAbs : Int) := by omega
            by_cases heq : x = -y
            · subst heq
              have HG := Lib.hid hgt
              clear hgt
              go_wp2_with fail
              go_ret3
              obtain ⟨M, e1, e2, e3⟩ := close_pos (xs := xs) (i := q) (j := j) (by omega) (by omega) (y := y) (fun k h1 h2 => HBG.out k (by omega) h2) HX.out
              have hMl : M.length = j - (q + 1) := by rw [e2]; simp; omega
              refine ⟨rfl, .inr ⟨xs.take q, -y, M, xs.drop (j + 1), ?_, by rw [← e1]; exact HC.out, fun z hz => by rw [Int.natAbs_neg]; exact e3 z hz, ?_⟩⟩
              · have h1 : xs = xs.take j ++ xs.drop j := (List.take_append_drop j xs).symm
                have h2 : xs.drop j = y :: xs.drop (j + 1) := by rw [List.drop_eq_getElem_cons hjx, ← nth_lt hjx, HY.out]
                rw [h2, e1] at h1
                rw [Int.neg_neg]
                simpa using h1
              · rw [List.length_take, hMl, Nat.min_eq_left (by omega), show q + 1 + (j - (q + 1)) = j by omega]
                rfl
            · have HE := Lib.hid heq
              have hne : (x == -y) = false := by rw [beq_eq_false_iff_ne]; exact heq
              clear heq
              go_wp2_with fail
              go_round
              case rel =>
                exact ⟨j + 1, rfl, by omega, clean_take hjx HC.out fun hc => by
                  obtain ⟨i, h1, h2, h3⟩ := not_close (by omega) hc
                  rw [HY.out] at h2 h3
                  rcases Nat.lt_trichotomy i q with hi | hi | hi
                  · have := h3 q hi (by omega)
                    rw [HX.out] at this
                    omega
                  · subst hi; rw [HX.out] at h2; exact HE.out h2
                  · have := HBG.out i (by omega) h1
                    rw [h2, Int.natAbs_neg] at this
                    omega⟩
              case measure => (simp [intOf]; try omega)
        · obtain rfl : i = 0 := by omega
          have hz0 : ¬ z ≥ 0 := by omega
          clear hz
          go_wp2_with fail
          go_round
          case rel => exact ⟨j + 1, rfl, by omega, clean_take hjx HC.out fun hc => by
            obtain ⟨i, h1, h2, _⟩ := not_close (by omega) hc
            rw [HY.out] at h2
            have := HBG.out i (Nat.zero_le _) h1
            rw [h2, Int.natAbs_neg] at this
            omega⟩
          case measure => (simp [intOf]; try omega)
    · obtain rfl : j = L := by omega
      have hc := HC.out
      rw [List.take_of_length_le (by rw [HL.out]; omega)] at hc
      have HCC := Lib.hid hc
      clear hc
      go_wp2_with fail
      go_ret3
      exact ⟨rfl, .inl ⟨HCC.out, rfl⟩⟩
end Go.Proofs.Ytnmklkjlcpgjmaa


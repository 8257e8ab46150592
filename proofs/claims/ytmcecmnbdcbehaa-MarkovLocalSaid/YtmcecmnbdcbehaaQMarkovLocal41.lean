/- MarkovLocal: for every input the statement returns true, and nothing that was there has changed. -/
import Derived.Test.YtmcecmnbdcbehaaQMarkovLocal0
import Derived.Test.YtmcecmnbdcbehaaQMarkovLocal1
import Derived.Test.YtmcecmnbdcbehaaQMarkovLocal2
import Derived.Test.YtmcecmnbdcbehaaQMarkovLocal3
import Derived.Test.YtmcecmnbdcbehaaQMarkovLocal4
import Derived.Test.YtmcecmnbdcbehaaQMarkovLocal5
import Derived.Test.YtmcecmnbdcbehaaQMarkovLocal6
import Derived.Test.YtmcecmnbdcbehaaQMarkovLocal7
import Derived.Test.YtmcecmnbdcbehaaQMarkovLocal8
import Derived.Test.YtmcecmnbdcbehaaQMarkovLocal9
import Derived.Test.YtmcecmnbdcbehaaQMarkovLocal10
import Derived.Test.YtmcecmnbdcbehaaQMarkovLocal11
import Derived.Test.YtmcecmnbdcbehaaQMarkovLocal12
import Derived.Test.YtmcecmnbdcbehaaQMarkovLocal13
import Derived.Test.YtmcecmnbdcbehaaQMarkovLocal14
import Derived.Test.YtmcecmnbdcbehaaQMarkovLocal15
import Derived.Test.YtmcecmnbdcbehaaQMarkovLocal16
import Derived.Test.YtmcecmnbdcbehaaQMarkovLocal17
import Derived.Test.YtmcecmnbdcbehaaQMarkovLocal18
import Derived.Test.YtmcecmnbdcbehaaQMarkovLocal19
import Derived.Test.YtmcecmnbdcbehaaQMarkovLocal20
import Derived.Test.YtmcecmnbdcbehaaQMarkovLocal21
import Derived.Test.YtmcecmnbdcbehaaQMarkovLocal22
import Derived.Test.YtmcecmnbdcbehaaQMarkovLocal23
import Derived.Test.YtmcecmnbdcbehaaQMarkovLocal24
import Derived.Test.YtmcecmnbdcbehaaQMarkovLocal25
import Derived.Test.YtmcecmnbdcbehaaQMarkovLocal26
import Derived.Test.YtmcecmnbdcbehaaQMarkovLocal27
import Derived.Test.YtmcecmnbdcbehaaQMarkovLocal28
import Derived.Test.YtmcecmnbdcbehaaQMarkovLocal29
import Derived.Test.YtmcecmnbdcbehaaQMarkovLocal30
import Derived.Test.YtmcecmnbdcbehaaQMarkovLocal31
import Derived.Test.YtmcecmnbdcbehaaQMarkovLocal32
import Derived.Test.YtmcecmnbdcbehaaQMarkovLocal33
import Derived.Test.YtmcecmnbdcbehaaQMarkovLocal34
import Derived.Test.YtmcecmnbdcbehaaQMarkovLocal35
import Derived.Test.YtmcecmnbdcbehaaQMarkovLocal36
import Derived.Test.YtmcecmnbdcbehaaQMarkovLocal37
import Derived.Test.YtmcecmnbdcbehaaQMarkovLocal38
import Derived.Test.YtmcecmnbdcbehaaQMarkovLocal39
import Derived.Test.YtmcecmnbdcbehaaQMarkovLocal40
import Derived.RangeFuncNested
import Derived.RangeFuncBound
import Derived.RangeFuncCalls
import Derived.RangeFuncLeaves
import Derived.RangeFuncBox
import Derived.Shelf.Abstract
import Derived.Shelf.RegionOpen
import Derived.OwnWalkIn
import Derived.TacticsInMore
import Derived.LoopNIn
import Derived.LoopIn
import Derived.Maps.AppendAt
import Derived.Deep.RegionLaw
import Derived.OrdersIn
import Derived.OrdersHeld
import Derived.Deep.RegionHeld
namespace Go.Proofs.Ytmcecmnbdcbehaa
open Go.RowKit Go.Sl Go.Maps

/-- A box of three numbers. -/
def Box3 (W : World) (B : Nat) (a b c : Int) : Prop := W.cell? ⟨B, 0, none⟩ = some (.int .i64 a) ∧ W.cell? ⟨B, 1, none⟩ = some (.int .i64 b) ∧ W.cell? ⟨B, 2, none⟩ = some (.int .i64 c) ∧ B < W.heap.size
theorem Box3.below {W W' : World} {B : Nat} {a b c : Int} (h : Box3 W B a b c) (hb : Below W.heap.size W W') : Box3 W' B a b c :=
  ⟨(hb.cell (p := ⟨B, 0, none⟩) h.2.2.2).trans h.1, (hb.cell (p := ⟨B, 1, none⟩) h.2.2.2).trans h.2.1, (hb.cell (p := ⟨B, 2, none⟩) h.2.2.2).trans h.2.2.1, Nat.lt_of_lt_of_le h.2.2.2 hb.size⟩
theorem box3_new (W : World) (a b c : Int) (t : TypeId) : Box3 (W.alloc (.cells #[.int .i64 a, .int .i64 b, .int .i64 c] t)) W.heap.size a b c := by
  refine ⟨?_, ?_, ?_, ?_⟩ <;> simp [go_sem]

theorem mapply_err (n : Int) (xs : List Int) (k j : Nat) (l : Int) (h : (mapply n xs k j l).2.2 ≠ 0) : (mapply n xs k j l).1 = 0 ∧ (mapply n xs k j l).2.1 = [] := by
  unfold mapply at h ⊢
  split
  · exact ⟨rfl, rfl⟩
  · split
    · exact ⟨rfl, rfl⟩
    · rename_i a b; rw [if_neg a, if_neg b] at h; exact absurd h a
theorem mapply_ok {n : Int} {xs : List Int} {k j : Nat} {l : Int} (h : (mapply n xs k j l).2.2 = 0) : (mperform n xs k j l).2.2 = 0 ∧ mapply n xs k j l = mperform n xs k j l ∧ (mperform n xs k j l).1 ≤ 6 ∧ (mperform n xs k j l).2.1.length ≤ 30 := by
  unfold mapply at h ⊢
  split at h
  · rename_i a; exact absurd h a
  · rename_i a
    split at h
    · cases h
    · rename_i b
      rw [if_neg a, if_neg b]; exact ⟨h, rfl, by omega, by omega⟩

/-- What a move leads to is right, and so is the move that leads back. -/
theorem apply_fine {n : Nat} {xs : List Int} (hn : 2 ≤ n) (hn6 : n ≤ 6) (hx : BWord n xs) {k j : Nat} {l : Int} (hk1 : 1 ≤ k) (hk7 : k ≤ 7) (hj : j ≤ 1000) (hins : k = 1 → l ≠ 0 ∧ -n < l ∧ l < n) (h6 : k ≠ 1 → l = 1 ∨ l = -1) (h : (mapply n xs k j l).2.2 = 0) :
    1 ≤ (mapply n xs k j l).1 ∧ (mapply n xs k j l).1 ≤ 6 ∧ (mapply n xs k j l).2.1.length ≤ 30 ∧ BWord (mapply n xs k j l).1 (mapply n xs k j l).2.1 ∧ (k = 2 → j < xs.length) ∧ (k = 7 → 0 < xs.length) ∧
    (k ≤ 4 → (mapply n xs k j l).1 = n ∧ WEq n xs (mapply n xs k j l).2.1) ∧
    ((mundo xs k j l).2.1 ≤ 1000 ∧ 1 ≤ (mundo xs k j l).1 ∧ (mundo xs k j l).1 ≤ 7 ∧ -1000 ≤ (mundo xs k j l).2.2 ∧ (mundo xs k j l).2.2 ≤ 1000 ∧
      ((mundo xs k j l).1 = 1 → (mundo xs k j l).2.2 ≠ 0 ∧ -(mapply n xs k j l).1 < (mundo xs k j l).2.2 ∧ (mundo xs k j l).2.2 < (mapply n xs k j l).1) ∧
      ((mundo xs k j l).1 = 6 → (mundo xs k j l).2.2 = 1 ∨ (mundo xs k j l).2.2 = -1) ∧ ((mundo xs k j l).1 = 7 → 2 ≤ (mapply n xs k j l).1)) := by
  obtain ⟨p1, p2, p3, p4⟩ := mapply_ok h
  rw [p2]
  have hN : ∀ i, i < xs.length → nth xs i ≠ 0 ∧ -(n : Int) < nth xs i ∧ nth xs i < n := fun i hi => hx _ (nth_mem hi)
  have h2 : k = 2 → j < xs.length := by
    rintro rfl
    unfold mperform at p1
    rw [if_neg (by decide), if_neg (by decide), if_neg (by decide)] at p1
    have e2 : mcnt 2 = 2 := rfl
    unfold mlocal at p1
    by_cases h0 : xs.length < j + mcnt 2
    · rw [if_pos h0] at p1; cases p1
    · omega
  have hm : (mundo xs k j l).2.1 ≤ 1000 ∧ 1 ≤ (mundo xs k j l).1 ∧ (mundo xs k j l).1 ≤ 7 ∧ -1000 ≤ (mundo xs k j l).2.2 ∧ (mundo xs k j l).2.2 ≤ 1000 ∧ ((mundo xs k j l).1 = 6 → (mundo xs k j l).2.2 = 1 ∨ (mundo xs k j l).2.2 = -1) ∧ ((mundo xs k j l).1 = 1 → k = 2) ∧ ((mundo xs k j l).1 = 7 → k = 6) := by
    unfold mundo
    split
    · exact ⟨hj, by simp, by simp, by simp, by simp, by simp, by simp, by simp⟩
    · split
      · rename_i e; have := hN j (h2 e); exact ⟨hj, by simp, by simp, by simp only; omega, by simp only; omega, by simp, fun _ => e, by simp⟩
      · split
        · rename_i e; exact ⟨by simp, by simp, by simp, by simp, by simp, by simp, by simp, fun _ => e⟩
        · split
          · refine ⟨by simp, by simp, by simp, ?_, ?_, ?_, by simp, by simp⟩
            · simp only; split <;> omega
            · simp only; split <;> omega
            · simp only; intro _; split <;> simp
          · refine ⟨hj, hk1, hk7, by simp, by simp, ?_, ?_, ?_⟩ <;> (simp only; omega)
  obtain ⟨m1, m2, m3, m4, m5, m6, m7, m8⟩ := hm
  by_cases k5 : k = 5
  · subst k5
    have e : mperform n xs 5 j l = ((n : Int), xs.drop 1 ++ xs.take 1, 0) := by
      unfold mperform at p1 ⊢
      rw [if_pos rfl] at p1 ⊢
      split at p1
      · cases p1
      · rename_i a; rw [if_neg a]
    rw [e] at p3 p4 ⊢
    refine ⟨by simp only; omega, p3, p4, fun x hm => ?_, h2, by simp, by simp, m1, m2, m3, m4, m5, fun e => by have := m7 e; omega, m6, fun e => by have := m8 e; omega⟩
    rcases List.mem_append.1 hm with h | h
    · exact hx x (List.mem_of_mem_drop h)
    · exact hx x (List.mem_of_mem_take h)
  · by_cases k6 : k = 6
    · subst k6
      have e : mperform n xs 6 j l = ((n : Int) + 1, xs ++ [l * n], 0) := by unfold mperform; rw [if_neg (by decide), if_pos rfl]
      rw [e] at p3 p4 ⊢
      refine ⟨by simp only; omega, p3, p4, fun x hm => ?_, h2, by simp, by simp, m1, m2, m3, m4, m5, fun e => by have := m7 e; omega, m6, fun _ => by simp only; omega⟩
      simp only at hm
      rcases List.mem_append.1 hm with h | h
      · have := hx x h; simp only; omega
      · simp at h; subst h
        rcases h6 (by decide) with rfl | rfl <;> (simp only; omega)
    · by_cases k7 : k = 7
      · subst k7
        by_cases hl : mlast (n : Int) xs
        · have e : mperform n xs 7 j l = ((n : Int) - 1, xs.take (xs.length - 1), 0) := by unfold mperform; rw [if_neg (by decide), if_neg (by decide), if_pos rfl, if_pos hl]
          rw [e] at p3 p4 ⊢
          refine ⟨by simp only; omega, p3, p4, fun x hm => ?_, h2, fun _ => hl.1, by simp, m1, m2, m3, m4, m5, fun e => by have := m7 e; omega, m6, fun e => by have := m8 e; omega⟩
          simp only at hm
          obtain ⟨i, hi, rfl⟩ := List.getElem_of_mem hm
          rw [List.getElem_take]
          have hi2 : i < xs.length - 1 := by rw [List.length_take] at hi; omega
          have a := hl.2.2 i hi2
          have b := hN i (by omega)
          rw [nth_lt (by omega)] at a b
          simp only; omega
        · unfold mperform at p1
          rw [if_neg (by decide), if_neg (by decide), if_pos rfl, if_neg hl] at p1
          cases p1
      · have e : mperform n xs k j l = ((n : Int), mlocal xs k j l) := by unfold mperform; rw [if_neg k5, if_neg k6, if_neg k7]
        rw [e] at p1 p3 p4 ⊢
        have hle := local_eq (by omega) hx hins hk1 (by omega) p1
        refine ⟨by simp only; omega, p3, p4, hle.1, h2, fun e => absurd e k7, fun _ => ⟨rfl, hle.2⟩, m1, m2, m3, m4, m5, fun e => ?_, m6, fun e => by have := m8 e; omega⟩
        have e2 := m7 e
        have := hN j (h2 e2)
        unfold mundo
        subst e2
        simpa using this

theorem undo_calls (n : Nat) (v : Value) (xs : List Int) (k j : Nat) (l : Int) (w : World) (hv : Ints w v xs) (hl : xs.length ≤ 1000) (hx : BWord n xs) (hn6 : n ≤ 6) (hk1 : 1 ≤ k) (hk7 : k ≤ 7) (k5 : k ≠ 5) (h2 : k = 2 → j < xs.length) (h7 : k = 7 → 0 < xs.length) (HAP : AppliesTo n v xs k j l) :
    Calls Try.prog 41 #[.int .i64 n, v, .agg #[.int .i64 k, .int .i64 j, .int .i64 l]] w fun e w' => e = .returned (.tuple #[.agg #[.int .i64 (mundo xs k j l).1, .int .i64 (mundo xs k j l).2.1, .int .i64 (mundo xs k j l).2.2], .int .i64 0]) ∧ Below w.heap.size w w' := by
  rcases (show k = 1 ∨ k = 2 ∨ k = 3 ∨ k = 4 ∨ k = 6 ∨ k = 7 by omega) with rfl | rfl | rfl | rfl | rfl | rfl
  · exact undo1_calls n v xs j l w hv hl HAP
  · exact undo2_calls n v xs j l w hv hl (h2 rfl) HAP
  · exact undo3_calls n v xs j l w hv hl HAP
  · exact undo4_calls n v xs j l w hv hl HAP
  · exact undo6_calls n v xs j l w hv hl HAP
  · have hb := hx _ (nth_mem (show xs.length - 1 < xs.length by have := h7 rfl; omega))
    exact undo7_calls n v xs j l w hv hl (h7 rfl) _ rfl (by omega) (by omega) hb.1 HAP

theorem mapply_stab : mapply 1 [] 6 0 1 = (2, [1], 0) := by
  have e : mperform 1 [] 6 0 1 = (2, [1], 0) := by unfold mperform; rw [if_neg (by decide), if_pos rfl]; rfl
  unfold mapply; rw [e]; rfl

set_option maxRecDepth 100000 in
set_option maxHeartbeats 8000000 in
theorem markovLocal_true {w0 : World} (n0 : Int) (hn0 : I64 n0) (raw : Value) (zs : List Int) (hr : Ints w0 raw zs) (hz : ∀ z ∈ zs, I64 z) (kind : Int) (h1 : I64 kind) (at_ : Int) (h2 : I64 at_) (letter : Int) (h3 : I64 letter) (w : World) (hw : w = w0 := by rfl) :
    Calls Try.prog 7 #[.int .i64 n0, raw, .int .i64 kind, .int .i64 at_, .int .i64 letter] w fun e w' => e = .returned (.bool true) ∧ Below w.heap.size w w' := by
  subst hw
  obtain ⟨N, hN⟩ : ∃ N : Nat, 2 + n0 % (6 - 1) = (N : Int) := ⟨(2 + n0 % (6 - 1)).toNat, by omega⟩
  have hN2 : 2 ≤ N := by omega
  have hN6 : N ≤ 6 := by omega
  have HS := Lib.hid (strands_calls n0 6 w hn0 (by omega) (by omega))
  rw [hN] at HS
  have w1 : IntKind.i64.wrap ((N : Int) - 1) = (N : Int) - 1 := IntWalk.i64_in _ ⟨by omega, by omega⟩
  have HW := Lib.hid (word_calls ((N : Int) - 1) raw zs 12 w hr hz (by omega) (by omega) (by omega))
  obtain ⟨X, hX⟩ : ∃ X, wordL ((N : Int) - 1) zs 12 = X := ⟨_, rfl⟩
  have hbw : BWord N X := hX ▸ wordL_bword (by omega) zs 12
  have hXl : X.length ≤ 12 := by rw [← hX]; simp [wordL]; omega
  rw [hX] at HW
  have HBW := Lib.hid hbw
  clear hX hbw hr hz hN
  go_enter Try.func7, Try.ntmps7
  go_wp2_with fail
  refine HS.out.mono ?_
  rintro e w' ⟨rfl, rfl⟩
  go_wp2_with fail
  refine (HW.out).mono ?_
  rintro e u1 ⟨x, rfl, hx, hb⟩
  have sx := hx.isSl
  have HX := Lib.hid (hx.ints)
  have HB := Lib.hid hb
  clear hb
  clear hx
  go_wp2_with fail
  refine (move_calls N x X kind at_ letter _ HX.out (by omega) (by omega) (by omega) h1 h2 h3).mono ?_
  rintro e u2 ⟨k, j, l, rfl, hk, hj, hins, hoth, hb⟩
  have HINS := Lib.hid hins; have HOTH := Lib.hid hoth; clear hins hoth
  replace HX := Lib.hid (HX.out.below hb)
  replace HB := Lib.hid (Below.chain HB.out hb)
  clear hb
  obtain ⟨bm, hbm⟩ : ∃ b, b = u2.heap.size := ⟨_, rfl⟩
  obtain ⟨W5, hW5⟩ : ∃ W5, W5 = u2.alloc (.cells #[.int .i64 k, .int .i64 j, .int .i64 l] 57) := ⟨_, rfl⟩
  have hb5 : Below u2.heap.size u2 W5 := by rw [hW5]; exact (Below.refl _ _).alloc (Nat.le_refl _) _
  have BX := Lib.hid (show Box3 W5 bm k j l by rw [hW5, hbm]; exact box3_new _ _ _ _ _)
  replace HX := Lib.hid (HX.out.below hb5)
  replace HB := Lib.hid (Below.chain HB.out hb5)
  have HW5 := Lib.hid hW5.symm
  go_wp2_with fail
  rw [HW5.out]
  rw [← hbm]
  clear hW5 hb5 HW5 hbm
  have HONE := apply_calls 1 (.slice none 0 0) [] 6 0 1 W5 (ints_nil _) (by omega) (by omega) (by simp) (fun y hy => by cases hy) (by omega) (by omega) (by omega) (by omega) (by omega) (fun h => by omega) (fun _ => .inl rfl) (fun h => by omega)
  rw [mapply_stab] at HONE
  refine (HONE).mono ?_
  rintro e u3 ⟨one, rfl, ho, hb⟩
  have sone := ho.isSl
  clear HONE
  have HO := Lib.hid (ho.ints)
  replace HX := Lib.hid (HX.out.below hb)
  replace BX := Lib.hid (BX.out.below hb)
  replace HB := Lib.hid (Below.chain HB.out hb)
  clear hb
  clear ho
  go_wp2_with fail
  refine (equal_yes _ _ [1] [1] _ (HO.out.alloc _) (ints_lit [1] rfl rfl rfl (by simp)) rfl).mono ?_
  rintro e u4 ⟨rfl, hb⟩
  replace hb := Below.chain ((Below.refl _ _).alloc (Nat.le_refl _) _) hb
  clear HO
  replace HX := Lib.hid (HX.out.below hb)
  replace BX := Lib.hid (BX.out.below hb)
  replace HB := Lib.hid (Below.chain HB.out hb)
  clear hb
  have HAP := Lib.hid (fun W (h : Ints W x X) => apply_calls N x X k j l W h (by omega) (by omega) (by omega) HBW.out (by
      by_cases e : k = 1
      · have := HINS.out e; omega
      · have := HOTH.out e; omega) (by
      by_cases e : k = 1
      · have := HINS.out e; omega
      · have := HOTH.out e; omega) (by omega) hk.1 hk.2 HINS.out (fun e => HOTH.out (by omega)) (fun _ => by omega))
  have HBK := Lib.hid (fun (h5 : k ≠ 5) (h : (mapply N X k j l).2.2 = 0) => apply_back (show 1 ≤ N by omega) hN6 HBW.out (by omega) hk.1 hk.2 h5 (fun e => HOTH.out (by omega)) h)
  have HFN := Lib.hid (fun (h : (mapply N X k j l).2.2 = 0) => apply_fine hN2 hN6 HBW.out hk.1 hk.2 (show j ≤ 1000 by omega) HINS.out HOTH.out h)
  have HER := mapply_err N X k j l
  obtain ⟨R, hR⟩ : ∃ R, mapply N X k j l = R := ⟨_, rfl⟩
  obtain ⟨n', Y, er⟩ := R
  rw [hR] at HAP HER HBK HFN
  simp only at HAP HER HBK HFN
  clear hR
  obtain ⟨c0, c1, c2, cl⟩ := BX.out
  go_wp2_with fail
  refine (HAP.out _ HX.out).mono ?_
  rintro e u5 ⟨y, rfl, hy, hb⟩
  have sy := hy.isSl
  have ly := hy.len
  have HY := Lib.hid hy.ints
  clear c0 c1 c2 cl hy
  replace HX := Lib.hid (HX.out.below hb)
  replace BX := Lib.hid (BX.out.below hb)
  replace HB := Lib.hid (Below.chain HB.out hb)
  clear hb
  by_cases her : er = 0
  case neg =>
    obtain ⟨rfl, rfl⟩ := HER her
    have hd : (er != 0) = true := by simpa using her
    simp only [List.length_nil] at ly
    go_wp2_with fail
    go_ret
    exact ⟨rfl, HB.out⟩
  subst her
  obtain ⟨g1, g2, g3, g4, g5, g6, g7, g8⟩ := HFN.out rfl
  have G4 := Lib.hid g4; have G5 := Lib.hid g5; have G6 := Lib.hid g6; have G7 := Lib.hid g7; have G8 := Lib.hid g8
  have HBK2 := Lib.hid (fun h5 => HBK.out h5 rfl)
  clear g4 g5 g6 g7 g8 HFN HBK HER
  have HUN := Lib.hid (fun W (h : Ints W x X) (h5 : k ≠ 5) => undo_calls N x X k j l W h (by omega) HBW.out hN6 hk.1 hk.2 h5 G5.out G6.out (fun W hW => ⟨n', Y, HAP.out W hW⟩))
  have HUN5 := Lib.hid (fun W (h : Ints W x X) => undo5_calls N x X j l W h (by omega))
  have HAP5 := Lib.hid (fun (h5 : k = 5) => (show AppliesTo N x X 5 j l from fun W hW => ⟨n', Y, by have := HAP.out W hW; rw [h5] at this; exact this⟩))
  obtain ⟨c0, c1, c2, cl⟩ := BX.out
  by_cases k4 : k ≤ 4
  case pos =>
    have hd : decide ((k : Int) ≤ 4) = true := by simp; omega
    have k5 : ((k : Int) == 5) = false := by simp; omega
    obtain ⟨rfl, hwe⟩ := G7.out k4
    have HWE := Lib.hid hwe
    clear hwe
    go_wp2_with fail
    refine (gequal_calls N x y X Y _ HX.out HY.out hN2 hN6 HBW.out G4.out (by omega) g3).mono ?_
    rintro e u6 ⟨c, d, rfl, hc, hd', hb⟩
    have hcd : c = d := cn_unique ((eqv_cn (by omega) hN2 (HWE.out _ (good_nil N)) c).1 hc) hd'
    rw [decide_eq_true hcd]
    replace HX := Lib.hid (HX.out.below hb)
    replace HY := Lib.hid (HY.out.below hb)
    replace BX := Lib.hid (BX.out.below hb)
    replace HB := Lib.hid (Below.chain HB.out hb)
    clear hcd hc hd' hb c0 c1 c2 cl
    obtain ⟨c0, c1, c2, cl⟩ := BX.out
    go_wp2_with fail
    refine (HUN.out _ HX.out (by omega)).mono ?_
    rintro e u9 ⟨rfl, hb⟩
    replace HX := Lib.hid (HX.out.below hb)
    replace HY := Lib.hid (HY.out.below hb)
    replace BX := Lib.hid (BX.out.below hb)
    replace HB := Lib.hid (Below.chain HB.out hb)
    clear c0 c1 c2 cl hb
    obtain ⟨c0, c1, c2, cl⟩ := BX.out
    obtain ⟨m1, m2, m3, m4, m5, m6, m7, m8⟩ := G8.out
    have HAB := Lib.hid (fun W (h : Ints W y Y) => apply_calls N y Y (mundo X k j l).1 (mundo X k j l).2.1 (mundo X k j l).2.2 W h g1 g2 g3 G4.out m4 m5 m1 m2 m3 m6 m7 m8)
    rw [HBK2.out (by omega)] at HAB
    simp only at HAB
    clear m1 m2 m3 m4 m5 m6 m7 m8 HBK2 G8
    obtain ⟨M, hM⟩ : ∃ M, mundo X k j l = M := ⟨_, rfl⟩
    obtain ⟨M1, M2, M3⟩ := M
    rw [hM] at HAB
    simp only [hM]
    simp only at HAB
    clear hM
    obtain ⟨W9, hW9⟩ : ∃ W9, W9 = u9.alloc (.cells #[.int .i64 M1, .int .i64 M2, .int .i64 M3] 57) := ⟨_, rfl⟩
    have hb9 : Below u9.heap.size u9 W9 := by rw [hW9]; exact (Below.refl _ _).alloc (Nat.le_refl _) _
    replace HX := Lib.hid (HX.out.below hb9)
    replace HY := Lib.hid (HY.out.below hb9)
    replace HB := Lib.hid (Below.chain HB.out hb9)
    have HW9 := Lib.hid hW9.symm
    clear hW9 hb9 BX
    go_wp2_with fail
    rw [HW9.out]
    refine (HAB.out _ HY.out).mono ?_
    rintro e u10 ⟨z, rfl, hz, hb⟩
    have sz := hz.isSl
    have HZ := Lib.hid hz.ints
    replace HX := Lib.hid (HX.out.below hb)
    replace HB := Lib.hid (Below.chain HB.out hb)
    clear hz hb c0 c1 c2 cl
    go_wp2_with fail
    refine (equal_yes _ _ X X _ HZ.out HX.out rfl).mono ?_
    rintro e u11 ⟨rfl, hb⟩
    replace HB := Lib.hid (Below.chain HB.out hb)
    clear hb
    go_wp2_with fail
    go_ret
    exact ⟨rfl, HB.out⟩
  
  by_cases k5 : k = 5
  case pos =>
    subst k5
    go_wp2_with fail
    refine (HUN5.out _ HX.out (HAP5.out (by simp))).mono ?_
    rintro e u9 ⟨rfl, hb⟩
    replace BX := Lib.hid (BX.out.below hb)
    replace HB := Lib.hid (Below.chain HB.out hb)
    clear c0 c1 c2 cl hb
    obtain ⟨c0, c1, c2, cl⟩ := BX.out
    have HB9 := Lib.hid (Below.chain HB.out ((Below.refl _ _).alloc (Nat.le_refl _) (.cells #[.int .i64 0, .int .i64 0, .int .i64 0] 57)))
    go_wp2_with fail
    go_ret
    exact ⟨rfl, HB9.out⟩
  
  have hd : decide ((k : Int) ≤ 4) = false := by simp; omega
  have k5' : ((k : Int) == 5) = false := by simp; omega
  go_wp2_with fail
  refine (HUN.out _ HX.out (by omega)).mono ?_
  rintro e u9 ⟨rfl, hb⟩
  replace HX := Lib.hid (HX.out.below hb)
  replace HY := Lib.hid (HY.out.below hb)
  replace BX := Lib.hid (BX.out.below hb)
  replace HB := Lib.hid (Below.chain HB.out hb)
  clear c0 c1 c2 cl hb
  obtain ⟨c0, c1, c2, cl⟩ := BX.out
  obtain ⟨m1, m2, m3, m4, m5, m6, m7, m8⟩ := G8.out
  have HAB := Lib.hid (fun W (h : Ints W y Y) => apply_calls n' y Y (mundo X k j l).1 (mundo X k j l).2.1 (mundo X k j l).2.2 W h g1 g2 g3 G4.out m4 m5 m1 m2 m3 m6 m7 m8)
  rw [HBK2.out (by omega)] at HAB
  simp only at HAB
  clear m1 m2 m3 m4 m5 m6 m7 m8 HBK2 G8
  obtain ⟨M, hM⟩ : ∃ M, mundo X k j l = M := ⟨_, rfl⟩
  obtain ⟨M1, M2, M3⟩ := M
  rw [hM] at HAB
  simp only [hM]
  simp only at HAB
  clear hM
  obtain ⟨W9, hW9⟩ : ∃ W9, W9 = u9.alloc (.cells #[.int .i64 M1, .int .i64 M2, .int .i64 M3] 57) := ⟨_, rfl⟩
  have hb9 : Below u9.heap.size u9 W9 := by rw [hW9]; exact (Below.refl _ _).alloc (Nat.le_refl _) _
  replace HX := Lib.hid (HX.out.below hb9)
  replace HY := Lib.hid (HY.out.below hb9)
  replace HB := Lib.hid (Below.chain HB.out hb9)
  have HW9 := Lib.hid hW9.symm
  clear hW9 hb9 BX
  go_wp2_with fail
  rw [HW9.out]
  refine (HAB.out _ HY.out).mono ?_
  rintro e u10 ⟨z, rfl, hz, hb⟩
  have sz := hz.isSl
  have HZ := Lib.hid hz.ints
  replace HX := Lib.hid (HX.out.below hb)
  replace HB := Lib.hid (Below.chain HB.out hb)
  clear hz hb c0 c1 c2 cl
  go_wp2_with fail
  refine (equal_yes _ _ X X _ HZ.out HX.out rfl).mono ?_
  rintro e u11 ⟨rfl, hb⟩
  replace HB := Lib.hid (Below.chain HB.out hb)
  clear hb
  go_wp2_with fail
  go_ret
  exact ⟨rfl, HB.out⟩

end Go.Proofs.Ytmcecmnbdcbehaa


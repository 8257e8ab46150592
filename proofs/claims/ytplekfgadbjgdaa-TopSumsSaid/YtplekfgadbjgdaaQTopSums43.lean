/- jones.power walked: the factor of a number of loops. -/
import Derived.Test.YtplekfgadbjgdaaQTopSums0
import Derived.Test.YtplekfgadbjgdaaQTopSums1
import Derived.Test.YtplekfgadbjgdaaQTopSums2
import Derived.Test.YtplekfgadbjgdaaQTopSums3
import Derived.Test.YtplekfgadbjgdaaQTopSums4
import Derived.Test.YtplekfgadbjgdaaQTopSums5
import Derived.Test.YtplekfgadbjgdaaQTopSums6
import Derived.Test.YtplekfgadbjgdaaQTopSums7
import Derived.Test.YtplekfgadbjgdaaQTopSums8
import Derived.Test.YtplekfgadbjgdaaQTopSums9
import Derived.Test.YtplekfgadbjgdaaQTopSums10
import Derived.Test.YtplekfgadbjgdaaQTopSums11
import Derived.Test.YtplekfgadbjgdaaQTopSums12
import Derived.Test.YtplekfgadbjgdaaQTopSums13
import Derived.Test.YtplekfgadbjgdaaQTopSums14
import Derived.Test.YtplekfgadbjgdaaQTopSums15
import Derived.Test.YtplekfgadbjgdaaQTopSums16
import Derived.Test.YtplekfgadbjgdaaQTopSums17
import Derived.Test.YtplekfgadbjgdaaQTopSums19
import Derived.Test.YtplekfgadbjgdaaQTopSums20
import Derived.Test.YtplekfgadbjgdaaQTopSums21
import Derived.Test.YtplekfgadbjgdaaQTopSums22
import Derived.Test.YtplekfgadbjgdaaQTopSums23
import Derived.Test.YtplekfgadbjgdaaQTopSums24
import Derived.Test.YtplekfgadbjgdaaQTopSums26
import Derived.Test.YtplekfgadbjgdaaQTopSums27
import Derived.Test.YtplekfgadbjgdaaQTopSums28
import Derived.Test.YtplekfgadbjgdaaQTopSums29
import Derived.Test.YtplekfgadbjgdaaQTopSums30
import Derived.Test.YtplekfgadbjgdaaQTopSums31
import Derived.Test.YtplekfgadbjgdaaQTopSums32
import Derived.Test.YtplekfgadbjgdaaQTopSums33
import Derived.Test.YtplekfgadbjgdaaQTopSums37
import Derived.Test.YtplekfgadbjgdaaQTopSums38
import Derived.Test.YtplekfgadbjgdaaQTopSums42
import Derived.RangeFuncNested
import Derived.RangeFuncBound
import Derived.RangeFuncCalls
import Derived.RangeFuncLeaves
import Derived.RangeFuncBox
import Derived.Shelf.Abstract
import Derived.Shelf.RegionOpen
import Derived.OwnWalkIn
import Derived.TacticsInMore
import Derived.LoopNIn
import Derived.LoopIn
import Derived.Maps.AppendAt
import Derived.Deep.RegionLaw
namespace Go.Proofs.Ytplekfgadbjgdaa
open Go.RowKit Go.Sl

theorem pfit_trim {p : LP} (ht : Trimmed p) {lo hi : Int} (h : Within p lo hi) (h1 : -1000 ≤ lo) (h2 : hi ≤ 1000) : PFit p := by
  rcases h with h | ⟨a, b⟩
  · have := ht.zero h
    unfold PFit; rw [this, h]; decide
  · unfold PFit; omega

theorem powP_fit (j : Nat) (h : j ≤ 6) : PFit (powP j) ∧ n1 (powP j).c ≤ 64 := by
  refine ⟨pfit_trim (powP_trimmed j) (within_powP j) (by omega) (by omega), Nat.le_trans (n1_powP j) ?_⟩
  calc 2 ^ j ≤ 2 ^ 6 := Nat.pow_le_pow_right (by decide) h
    _ = 64 := rfl
theorem loopP_fit : PFit loopP ∧ n1 loopP.c ≤ 2 := ⟨by unfold PFit; decide, by decide⟩

set_option maxRecDepth 100000 in
set_option maxHeartbeats 4000000 in
theorem power_calls (K : Nat) (hK : K ≤ 6) (w : World) :
    Calls Try.prog 142 #[.int .i64 K] w fun e w' => ∃ s, e = .returned (.agg #[.int .i64 (powP K).low, s]) ∧ OwnI w' w.heap.size s (powP K).c ∧ Below w.heap.size w w' := by
  obtain ⟨W1, hW1⟩ : ∃ W1, W1 = w.alloc (.cells #[.int .i64 0, .slice none 0 0] 40) := ⟨_, rfl⟩
  have b1 : Below w.heap.size w W1 := by rw [hW1]; exact (Below.refl _ _).alloc (Nat.le_refl _) _
  have p1 : Pair W1 w.heap.size 40 (.int .i64 0) (.slice none 0 0) := by rw [hW1]; exact pair_new _ _ _ _
  have z1 : w.heap.size < W1.heap.size := by rw [hW1]; simp
  have HW1 := Lib.hid hW1.symm; have B1 := Lib.hid b1; have P1 := Lib.hid p1
  clear hW1 b1 p1
  go_enter Try.func142, Try.ntmps142
  go_wp2_with fail
  rw [HW1.out]
  refine (term_calls 1 0 _ (by omega) (by omega)).mono ?_
  rintro e u1 ⟨s, rfl, hs, hb⟩
  have hsz := hb.size
  have p2 := P1.out.below hb
  have B2 := Lib.hid (Below.chain B1.out hb)
  have o2 := hs.low (show w.heap.size ≤ W1.heap.size by omega)
  have lt1 := hs.lt
  obtain ⟨s1, s2, s3, rfl, -⟩ := hs.isSl.cases
  have ss := hs.isSl
  have HS := Lib.hid hs; have P2 := Lib.hid p2
  clear hb hs p2 o2 lt1
  go_wp2_with fail
  go_loopw [6] (fun i wr => ∃ (k : Nat) (v : Value), k ≤ K ∧ i = .int .i64 k ∧ Pair wr u1.heap.size 40 (.int .i64 (powP k).low) v ∧ OwnI wr W1.heap.size v (powP k).c ∧ Pair wr w.heap.size 40 (.int .i64 0) (.slice none 0 0) ∧ Below w.heap.size w wr ∧ u1.heap.size + 1 ≤ wr.heap.size) (fun i _ => K - (intOf i).toNat)
  case atStart => exact ⟨0, _, Nat.zero_le _, rfl, pair_new _ _ _ _, (HS.out.alloc _).low (Nat.le_refl _), P2.out.alloc _, B2.out.alloc (by omega) _, by simp⟩
  case round =>
    obtain ⟨k, v, hk, rfl, q3, o3, q2, hb, hz⟩ := hrel
    have s3 := o3.isSl
    obtain ⟨g1, g2, g3, rfl, -⟩ := s3.cases
    by_cases hlt : k < K
    · obtain ⟨f1, f2⟩ := powP_fit k (by omega)
      obtain ⟨f3, f4⟩ := loopP_fit
      have hprod : n1 (powP k).c * n1 loopP.c ≤ 4000000000000000000 := by
        have := Nat.mul_le_mul f2 f4; omega
      have hnx : pmul (powP k) loopP = powP (k + 1) := rfl
      have HF1 := Lib.hid f1; have HF3 := Lib.hid f3; have HP := Lib.hid hprod; have HNX := Lib.hid hnx
      clear f1 f2 f3 f4 hprod hnx
      go_wp2_with fail
      refine wp_region_held_drew (S := fun _ => True) (by kernel_rfl) (trivial) (fun hHeld => ?_)
      have BEL : Below (World.heap wr).size wr (World.drew wr) := (Below.refl _ _).drew
      have q3 := q3.below BEL
      have o3 := o3.below BEL
      have q2 := q2.below BEL
      obtain ⟨y0, hy0⟩ : ∃ y0, y0 = World.drew wr := ⟨_, rfl⟩
      rw [← hy0] at BEL q3 o3 q2 ⊢
      (try rw [← hy0] at hHeld)
      clear hy0
      refine wpAnyH_ready (rs := [0, 1]) (by kernel_rfl) (by simp) ?_
      refine' AllReadyH.cons (o := ?oiz13) ?haz13 (fun K hK => ?stepz13) (AllReadyH.cons (o := ?oiz14) ?haz14 (fun K hK => ?stepz14) AllReadyH.nil)
      case haz13 => (simp only [List.getElem?_toArray, List.getElem?_cons_zero]; exact rfl)
      case haz14 => (simp only [List.getElem?_toArray, List.getElem?_cons_succ, List.getElem?_cons_zero]; exact rfl)
      case stepz13 =>
        have aa0 := q3.cell0; have aa1 := q3.cell1
        go_simp

        clear aa0 aa1
        refine hK.out _ _ (trivial) (fun hHeld => ?_)
        clear hK K
        try simp only [Act.put, List.setIfInBounds_toArray, List.set_cons_zero, List.set_cons_succ]
        refine wpAnyH_ready (rs := [1]) (by kernel_rfl) (by simp) ?_
        refine' AllReadyH.cons (o := ?oiz4) ?haz4 (fun K hK => ?stepz4) AllReadyH.nil
        case haz4 => (simp only [List.getElem?_toArray, List.getElem?_cons_succ, List.getElem?_cons_zero]; exact rfl)
        go_simp
        obtain ⟨y1, hy1⟩ : ∃ y1, y1 = World.alloc y0 (.cells #[.int .i64 (-1), .int .i64 0, .int .i64 0, .int .i64 0, .int .i64 (-1)] 3) := ⟨_, rfl⟩
        rw [← hy1]
        have sb : Below (World.heap y0).size y0 y1 := by rw [hy1]; exact (Below.refl _ _).alloc (Nat.le_refl _) _
        have LIT : Ints y1 (.slice (some ⟨y0.heap.size, 0, none⟩) 5 5) [-1, 0, 0, 0, -1] := by rw [hy1]; exact ints_lit [-1, 0, 0, 0, -1] (by simp) rfl rfl (by simp)
        clear hy1
        replace q3 := q3.below sb
        replace o3 := o3.below sb
        replace q2 := q2.below sb
        replace BEL := Below.chain BEL sb
        clear sb
        refine hK.out _ _ (trivial) (fun hHeld => ?_)
        clear hK K
        try simp only [Act.put, List.setIfInBounds_toArray, List.set_cons_zero, List.set_cons_succ]
        refine wpAnyH_ready (rs := [2]) (by kernel_rfl) (by simp) ?_
        refine' AllReadyH.cons (o := ?oiz3) ?haz3 (fun K hK => ?stepz3) AllReadyH.nil
        case haz3 => (simp only [List.getElem?_toArray, List.getElem?_cons_succ, List.getElem?_cons_zero]; exact rfl)
        go_simp
        go_at_call 110
        refine (trim_calls (-2) _ [-1, 0, 0, 0, -1] y1 LIT (by simp) (by omega) (by omega)).mono ?_
        rintro e y2 ⟨v5, rfl, h5, sb⟩
        have s5 := h5.isSl
        have i5 := h5.ints
        clear h5
        clear LIT
        replace q3 := q3.below sb
        replace o3 := o3.below sb
        replace q2 := q2.below sb
        replace BEL := Below.chain BEL sb
        clear sb
        refine hK.out _ _ (trivial) (fun hHeld => ?_)
        clear hK K
        try simp only [Act.put, List.setIfInBounds_toArray, List.set_cons_zero, List.set_cons_succ]
        refine wpAnyH_ready (rs := [3]) (by kernel_rfl) (by simp) ?_
        refine' AllReadyH.cons (o := ?oiz2) ?haz2 (fun K hK => ?stepz2) AllReadyH.nil
        case haz2 => (simp only [List.getElem?_toArray, List.getElem?_cons_succ, List.getElem?_cons_zero]; exact rfl)
        go_simp
        go_at_call 70
        refine (ltimes_calls (powP k) loopP (.slice g1 g2 g3) v5 y2 o3.ints i5 HF1.out.1 HF3.out.1 HF1.out.2 HF3.out.2 HP.out).mono ?_
        rintro e y3 ⟨v6, rfl, h6, sb⟩
        rw [HNX.out] at h6 ⊢
        have o6 := h6.low (B' := W1.heap.size) (Nat.le_trans hsz (Nat.le_trans (Nat.le_of_succ_le hz) BEL.size))
        have s6 := o6.isSl
        obtain ⟨x1, x2, x3, rfl, -⟩ := s6.cases
        clear h6
        clear i5
        replace q3 := q3.below sb
        replace o3 := o3.below sb
        replace q2 := q2.below sb
        replace BEL := Below.chain BEL sb
        clear sb
        refine hK.out _ _ (trivial) (fun hHeld => ?_)
        clear hK K
        try simp only [Act.put, List.setIfInBounds_toArray, List.set_cons_zero, List.set_cons_succ]
        refine wpAnyH_ready (rs := [4]) (by kernel_rfl) (by simp) ?_
        refine' AllReadyH.cons (o := ?oiz1) ?haz1 (fun K hK => ?stepz1) AllReadyH.nil
        case haz1 => (simp only [List.getElem?_toArray, List.getElem?_cons_succ, List.getElem?_cons_zero]; exact rfl)
        have f0 := q3.free0; have f1 := q3.free1; have b0 := q3.cell0; have b1 := q3.cell1
        go_simp

        clear f0 f1 b0 b1
        refine hK.out _ _ (trivial) (fun hHeld => ?_)
        clear hK K
        try simp only [Act.put, List.setIfInBounds_toArray, List.set_cons_zero, List.set_cons_succ]
        refine wpAnyH_done (by kernel_rfl) ?_ _
        go_wp2_with fail
        have hne7 : ∀ b, Go.Sl.row (.slice x1 x2 x3) = some b → u1.heap.size ≠ b := fun b hb => Own.ne_of_type (by decide) o6 q3 _ hb
        go_roundw
        case rel => exact ⟨k + 1, _, by omega, by go_num, q3.set _ _, (o6.setOther (fun b hb => hne7 b hb) _).setOther (fun b hb => hne7 b hb) _, (q2.other (by omega) _ _).other (by omega) _ _, ((hb.trans (BEL.mono hb.size)).setCell (p := ⟨u1.heap.size, 0, none⟩) (by simp; omega) _).setCell (p := ⟨u1.heap.size, 1, none⟩) (by simp; omega) _, by have := BEL.size; simp; omega⟩
        case measure => simp [intOf]; omega
      case stepz14 =>
        go_simp
        obtain ⟨y4, hy4⟩ : ∃ y4, y4 = World.alloc y0 (.cells #[.int .i64 (-1), .int .i64 0, .int .i64 0, .int .i64 0, .int .i64 (-1)] 3) := ⟨_, rfl⟩
        rw [← hy4]
        have sb : Below (World.heap y0).size y0 y4 := by rw [hy4]; exact (Below.refl _ _).alloc (Nat.le_refl _) _
        have LIT : Ints y4 (.slice (some ⟨y0.heap.size, 0, none⟩) 5 5) [-1, 0, 0, 0, -1] := by rw [hy4]; exact ints_lit [-1, 0, 0, 0, -1] (by simp) rfl rfl (by simp)
        clear hy4
        replace q3 := q3.below sb
        replace o3 := o3.below sb
        replace q2 := q2.below sb
        replace BEL := Below.chain BEL sb
        clear sb
        refine hK.out _ _ (trivial) (fun hHeld => ?_)
        clear hK K
        try simp only [Act.put, List.setIfInBounds_toArray, List.set_cons_zero, List.set_cons_succ]
        refine wpAnyH_ready (rs := [0, 2]) (by kernel_rfl) (by simp) ?_
        refine' AllReadyH.cons (o := ?oiz11) ?haz11 (fun K hK => ?stepz11) (AllReadyH.cons (o := ?oiz12) ?haz12 (fun K hK => ?stepz12) AllReadyH.nil)
        case haz11 => (simp only [List.getElem?_toArray, List.getElem?_cons_zero]; exact rfl)
        case haz12 => (simp only [List.getElem?_toArray, List.getElem?_cons_succ, List.getElem?_cons_zero]; exact rfl)
        case stepz11 =>
          have aa0 := q3.cell0; have aa1 := q3.cell1
          go_simp

          clear aa0 aa1
          refine hK.out _ _ (trivial) (fun hHeld => ?_)
          clear hK K
          try simp only [Act.put, List.setIfInBounds_toArray, List.set_cons_zero, List.set_cons_succ]
          refine wpAnyH_ready (rs := [2]) (by kernel_rfl) (by simp) ?_
          refine' AllReadyH.cons (o := ?oiz7) ?haz7 (fun K hK => ?stepz7) AllReadyH.nil
          case haz7 => (simp only [List.getElem?_toArray, List.getElem?_cons_succ, List.getElem?_cons_zero]; exact rfl)
          go_simp
          go_at_call 110
          refine (trim_calls (-2) _ [-1, 0, 0, 0, -1] y4 LIT (by simp) (by omega) (by omega)).mono ?_
          rintro e y5 ⟨v5, rfl, h5, sb⟩
          have s5 := h5.isSl
          have i5 := h5.ints
          clear h5
          clear LIT
          replace q3 := q3.below sb
          replace o3 := o3.below sb
          replace q2 := q2.below sb
          replace BEL := Below.chain BEL sb
          clear sb
          refine hK.out _ _ (trivial) (fun hHeld => ?_)
          clear hK K
          try simp only [Act.put, List.setIfInBounds_toArray, List.set_cons_zero, List.set_cons_succ]
          refine wpAnyH_ready (rs := [3]) (by kernel_rfl) (by simp) ?_
          refine' AllReadyH.cons (o := ?oiz6) ?haz6 (fun K hK => ?stepz6) AllReadyH.nil
          case haz6 => (simp only [List.getElem?_toArray, List.getElem?_cons_succ, List.getElem?_cons_zero]; exact rfl)
          go_simp
          go_at_call 70
          refine (ltimes_calls (powP k) loopP (.slice g1 g2 g3) v5 y5 o3.ints i5 HF1.out.1 HF3.out.1 HF1.out.2 HF3.out.2 HP.out).mono ?_
          rintro e y6 ⟨v6, rfl, h6, sb⟩
          rw [HNX.out] at h6 ⊢
          have o6 := h6.low (B' := W1.heap.size) (Nat.le_trans hsz (Nat.le_trans (Nat.le_of_succ_le hz) BEL.size))
          have s6 := o6.isSl
          obtain ⟨x1, x2, x3, rfl, -⟩ := s6.cases
          clear h6
          clear i5
          replace q3 := q3.below sb
          replace o3 := o3.below sb
          replace q2 := q2.below sb
          replace BEL := Below.chain BEL sb
          clear sb
          refine hK.out _ _ (trivial) (fun hHeld => ?_)
          clear hK K
          try simp only [Act.put, List.setIfInBounds_toArray, List.set_cons_zero, List.set_cons_succ]
          refine wpAnyH_ready (rs := [4]) (by kernel_rfl) (by simp) ?_
          refine' AllReadyH.cons (o := ?oiz5) ?haz5 (fun K hK => ?stepz5) AllReadyH.nil
          case haz5 => (simp only [List.getElem?_toArray, List.getElem?_cons_succ, List.getElem?_cons_zero]; exact rfl)
          have f0 := q3.free0; have f1 := q3.free1; have b0 := q3.cell0; have b1 := q3.cell1
          go_simp

          clear f0 f1 b0 b1
          refine hK.out _ _ (trivial) (fun hHeld => ?_)
          clear hK K
          try simp only [Act.put, List.setIfInBounds_toArray, List.set_cons_zero, List.set_cons_succ]
          refine wpAnyH_done (by kernel_rfl) ?_ _
          go_wp2_with fail
          have hne7 : ∀ b, Go.Sl.row (.slice x1 x2 x3) = some b → u1.heap.size ≠ b := fun b hb => Own.ne_of_type (by decide) o6 q3 _ hb
          go_roundw
          case rel => exact ⟨k + 1, _, by omega, by go_num, q3.set _ _, (o6.setOther (fun b hb => hne7 b hb) _).setOther (fun b hb => hne7 b hb) _, (q2.other (by omega) _ _).other (by omega) _ _, ((hb.trans (BEL.mono hb.size)).setCell (p := ⟨u1.heap.size, 0, none⟩) (by simp; omega) _).setCell (p := ⟨u1.heap.size, 1, none⟩) (by simp; omega) _, by have := BEL.size; simp; omega⟩
          case measure => simp [intOf]; omega
        case stepz12 =>
          go_simp
          go_at_call 110
          refine (trim_calls (-2) _ [-1, 0, 0, 0, -1] y4 LIT (by simp) (by omega) (by omega)).mono ?_
          rintro e y7 ⟨v5, rfl, h5, sb⟩
          have s5 := h5.isSl
          have i5 := h5.ints
          clear h5
          clear LIT
          replace q3 := q3.below sb
          replace o3 := o3.below sb
          replace q2 := q2.below sb
          replace BEL := Below.chain BEL sb
          clear sb
          refine hK.out _ _ (trivial) (fun hHeld => ?_)
          clear hK K
          try simp only [Act.put, List.setIfInBounds_toArray, List.set_cons_zero, List.set_cons_succ]
          refine wpAnyH_ready (rs := [0]) (by kernel_rfl) (by simp) ?_
          refine' AllReadyH.cons (o := ?oiz10) ?haz10 (fun K hK => ?stepz10) AllReadyH.nil
          case haz10 => (simp only [List.getElem?_toArray, List.getElem?_cons_zero]; exact rfl)
          have aa0 := q3.cell0; have aa1 := q3.cell1
          go_simp

          clear aa0 aa1
          refine hK.out _ _ (trivial) (fun hHeld => ?_)
          clear hK K
          try simp only [Act.put, List.setIfInBounds_toArray, List.set_cons_zero, List.set_cons_succ]
          refine wpAnyH_ready (rs := [3]) (by kernel_rfl) (by simp) ?_
          refine' AllReadyH.cons (o := ?oiz9) ?haz9 (fun K hK => ?stepz9) AllReadyH.nil
          case haz9 => (simp only [List.getElem?_toArray, List.getElem?_cons_succ, List.getElem?_cons_zero]; exact rfl)
          go_simp
          go_at_call 70
          refine (ltimes_calls (powP k) loopP (.slice g1 g2 g3) v5 y7 o3.ints i5 HF1.out.1 HF3.out.1 HF1.out.2 HF3.out.2 HP.out).mono ?_
          rintro e y8 ⟨v6, rfl, h6, sb⟩
          rw [HNX.out] at h6 ⊢
          have o6 := h6.low (B' := W1.heap.size) (Nat.le_trans hsz (Nat.le_trans (Nat.le_of_succ_le hz) BEL.size))
          have s6 := o6.isSl
          obtain ⟨x1, x2, x3, rfl, -⟩ := s6.cases
          clear h6
          clear i5
          replace q3 := q3.below sb
          replace o3 := o3.below sb
          replace q2 := q2.below sb
          replace BEL := Below.chain BEL sb
          clear sb
          refine hK.out _ _ (trivial) (fun hHeld => ?_)
          clear hK K
          try simp only [Act.put, List.setIfInBounds_toArray, List.set_cons_zero, List.set_cons_succ]
          refine wpAnyH_ready (rs := [4]) (by kernel_rfl) (by simp) ?_
          refine' AllReadyH.cons (o := ?oiz8) ?haz8 (fun K hK => ?stepz8) AllReadyH.nil
          case haz8 => (simp only [List.getElem?_toArray, List.getElem?_cons_succ, List.getElem?_cons_zero]; exact rfl)
          have f0 := q3.free0; have f1 := q3.free1; have b0 := q3.cell0; have b1 := q3.cell1
          go_simp

          clear f0 f1 b0 b1
          refine hK.out _ _ (trivial) (fun hHeld => ?_)
          clear hK K
          try simp only [Act.put, List.setIfInBounds_toArray, List.set_cons_zero, List.set_cons_succ]
          refine wpAnyH_done (by kernel_rfl) ?_ _
          go_wp2_with fail
          have hne7 : ∀ b, Go.Sl.row (.slice x1 x2 x3) = some b → u1.heap.size ≠ b := fun b hb => Own.ne_of_type (by decide) o6 q3 _ hb
          go_roundw
          case rel => exact ⟨k + 1, _, by omega, by go_num, q3.set _ _, (o6.setOther (fun b hb => hne7 b hb) _).setOther (fun b hb => hne7 b hb) _, (q2.other (by omega) _ _).other (by omega) _ _, ((hb.trans (BEL.mono hb.size)).setCell (p := ⟨u1.heap.size, 0, none⟩) (by simp; omega) _).setCell (p := ⟨u1.heap.size, 1, none⟩) (by simp; omega) _, by have := BEL.size; simp; omega⟩
          case measure => simp [intOf]; omega
    · obtain rfl : k = K := by omega
      have e0 := q3.cell0; have e1 := q3.cell1
      have g20 := q2.cell0; have g21 := q2.cell1; have h20 := q2.free0; have h21 := q2.free1
      have Q3 := Lib.hid q3; have Q2 := Lib.hid q2; have O3 := Lib.hid o3; have HB := Lib.hid hb
      have hlt2 := q2.lt
      clear q3 q2 o3 hb
      go_wp2_with fail
      have hne7 : ∀ b, Go.Sl.row (.slice g1 g2 g3) = some b → w.heap.size ≠ b := fun b hb e => by have := (O3.out.lt b hb).1; omega
      refine bodyPost_ret (v := .agg #[.int .i64 (powP k).low, .slice g1 g2 g3]) (by simp [results, Try.results142, go_sem, g20, g21]) rfl ⟨_, rfl, ?_, ?_⟩
      · exact ((O3.out.setOther (fun b hb => hne7 b hb) _).setOther (fun b hb => hne7 b hb) _).low (by omega)
      · exact (HB.out.setCell (p := ⟨w.heap.size, 0, none⟩) (by simp) _).setCell (p := ⟨w.heap.size, 1, none⟩) (by simp) _
end Go.Proofs.Ytplekfgadbjgdaa


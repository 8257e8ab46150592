/- temperleylieb.Elements walked. -/
import Derived.Test.YtplekfgadbjgdaaQMatchingCounts0
import Derived.Test.YtplekfgadbjgdaaQMatchingCounts1
import Derived.Test.YtplekfgadbjgdaaQMatchingCounts10
import Derived.Test.YtplekfgadbjgdaaQMatchingCounts11
import Derived.Test.YtplekfgadbjgdaaQMatchingCounts12
import Derived.Test.YtplekfgadbjgdaaQMatchingCounts13
import Derived.Test.YtplekfgadbjgdaaQMatchingCounts14
import Derived.Test.YtplekfgadbjgdaaQMatchingCounts15
import Derived.Test.YtplekfgadbjgdaaQMatchingCounts16
import Derived.Test.YtplekfgadbjgdaaQMatchingCounts17
import Derived.Test.YtplekfgadbjgdaaQMatchingCounts18
import Derived.Test.YtplekfgadbjgdaaQMatchingCounts19
import Derived.Test.YtplekfgadbjgdaaQMatchingCounts20
import Derived.Test.YtplekfgadbjgdaaQMatchingCounts21
import Derived.Test.YtplekfgadbjgdaaQMatchingCounts22
import Derived.Test.YtplekfgadbjgdaaQMatchingCounts23
import Derived.Test.YtplekfgadbjgdaaQMatchingCounts24
import Derived.Test.YtplekfgadbjgdaaQMatchingCounts25
import Derived.Test.YtplekfgadbjgdaaQMatchingCounts26
import Derived.Test.YtplekfgadbjgdaaQMatchingCounts27
import Derived.Test.YtplekfgadbjgdaaQMatchingCounts28
import Derived.Test.YtplekfgadbjgdaaQMatchingCounts29
import Derived.Test.YtplekfgadbjgdaaQMatchingCounts30
import Derived.Test.YtplekfgadbjgdaaQMatchingCounts36
import Derived.Test.YtplekfgadbjgdaaQMatchingCounts44
import Derived.Test.YtplekfgadbjgdaaQMatchingCounts45
import Derived.Shelf.Strings.Builder1
import Derived.Deep.RegionLaw
import Derived.RangeFuncNested
import Derived.RangeFuncBound
import Derived.RangeFuncCalls
import Derived.RangeFuncLeaves
import Derived.RangeFuncBox
import Derived.Shelf.Abstract
import Derived.Shelf.RegionOpen
import Derived.OwnWalkIn
import Derived.TacticsInMore
import Derived.LoopNIn
import Derived.LoopIn
import Derived.Maps.AppendAt
namespace Go.Proofs.Ytplekfgadbjgdaa
open Go.RowKit Go.Sl Go.TL

/-- The places up to k are free. -/
def fzE (M k : Nat) : List Nat := List.replicate k 0 ++ List.replicate (M - k) 1
theorem fzE_length {M k : Nat} (h : k ≤ M) : (fzE M k).length = M := by simp [fzE]; omega
theorem fzE_succ {M k : Nat} (h : k < M) : (fzE M k).set k 0 = fzE M (k + 1) := by
  unfold fzE
  refine List.ext_getElem (by simp; omega) fun j h1 h2 => ?_
  rw [List.getElem_set]
  by_cases e : k = j
  · subst e
    rw [if_pos rfl, List.getElem_append_left (by simp)]; simp
  · rw [if_neg e]
    by_cases hj : j < k
    · rw [List.getElem_append_left (by simpa using hj), List.getElem_append_left (by simp; omega)]; simp
    · rw [List.getElem_append_right (by simp; omega), List.getElem_append_right (by simp; omega)]; simp
theorem dz_ones (M : Nat) : dz (fzE M 0) = List.replicate M 0 := by simp [dz, fzE]
theorem fzE_all (M : Nat) : fzE M M = List.replicate M 0 := by simp [fzE]
theorem ro_nil0 (w : World) (B : Nat) : RO w B (.slice none 0 0) [] [] := ⟨own_nil _ _ _ _, rfl, fun i hi => by simp at hi, fun i hi => by simp at hi, fun i hi => by simp at hi, fun i j _ hj => by simp at hj⟩

set_option maxRecDepth 100000 in
set_option maxHeartbeats 4000000 in
theorem elements_calls (n : Nat) (w : World) (h1 : 1 ≤ n) (h6 : n ≤ 6) (hlen : (fillA n).length ≤ 1000) :
    Calls Try.prog 14 #[.int .i64 n] w fun e w' => ∃ u vs, e = .returned (.tuple #[u, .int .i64 0]) ∧ RO w' w.heap.size u vs ((fillA n).map iz) ∧ Below w.heap.size w w' := by
  obtain ⟨N2, hN2⟩ : ∃ N2, 2 * n = N2 := ⟨_, rfl⟩
  have hN2i : (2 : Int) * (n : Int) = (N2 : Int) := by omega
  have hN2b : N2 ≤ 12 := by omega
  have hN21 : 2 ≤ N2 := by omega
  have HN2 := Lib.hid hN2
  have HLEN := Lib.hid hlen
  clear hN2 hlen
  obtain ⟨W1, hW1⟩ : ∃ W, W = w.alloc (.cells #[.int .i64 n] 3) := ⟨_, rfl⟩
  have cn := (show Cel W1 w.heap.size (.int .i64 n) 3 by rw [hW1]; exact heap_alloc_new _ _)
  have b1 : Below w.heap.size w W1 := by rw [hW1]; exact (Below.refl _ _).alloc (Nat.le_refl _) _
  have hW1' := hW1.symm
  have kn1 := cn.cell
  have CN := Lib.hid cn; have B1 := Lib.hid b1
  clear hW1 cn b1
  go_enter Try.func14, Try.ntmps14
  go_wp2_with fail
  refine (tstrands_calls n _ h1 h6).mono ?_
  rintro e w' ⟨rfl, rfl⟩
  obtain ⟨W2, hW2⟩ : ∃ W, W = W1.alloc (.cells #[.slice none 0 0] 24) := ⟨_, rfl⟩
  have co := (show Cel W2 W1.heap.size (.slice none 0 0) 24 by rw [hW2]; exact heap_alloc_new _ _)
  have b2 : Below W1.heap.size W1 W2 := by rw [hW2]; exact (Below.refl _ _).alloc (Nat.le_refl _) _
  have hsz1 := CN.out.lt
  have cn2 := CN.out.below b2
  have bb := Below.chain B1.out b2
  have hW2' := hW2.symm
  have kn2 := cn2.cell
  have hsz2 := co.lt
  have CN2 := Lib.hid cn2; have CO := Lib.hid co; have B2 := Lib.hid bb
  clear hW2 cn2 co bb b2 kn1 CN B1
  go_wp2_with (at_make; refine wpList_make rfl _ _ rfl _ _ N2 rfl rfl rfl rfl (by omega) ?_; intro out w1 ho1 hg1 hlo hsz; have so := ho1.isSl)
  have cn3 := CN2.out.grown hg1 (by simp)
  have co3 := CO.out.grown hg1 (by simp)
  have b3 := Below_of_grown B2.out hg1 B2.out.size (fun b hb => by cases hb)
  have CN3 := Lib.hid cn3; have CO3 := Lib.hid co3; have B3 := Lib.hid b3; have HO1 := Lib.hid ho1
  have hsz3 : w1.heap.size = W2.heap.size + 1 := hsz
  clear hg1 cn3 co3 b3 ho1 CN2 CO B2 kn2 hW1' hW2' hsz
  go_loopw [19] (fun s wr => ∃ k : Nat, k ≤ N2 ∧ s = .int .i64 k ∧ Cel wr w.heap.size (.int .i64 n) 3 ∧ Cel wr W1.heap.size (.slice none 0 0) 24 ∧ Cel wr (W2.heap.size + 1) out 22 ∧ OwnI wr W2.heap.size out (dz (fzE N2 k)) ∧ vblk out ≠ w.heap.size ∧ vblk out ≠ W1.heap.size ∧ vblk out ≠ W2.heap.size + 1 ∧ w.heap.size ≤ vblk out ∧ vblk out < wr.heap.size ∧ Below w.heap.size w wr) (fun s _ => N2 - (intOf s).toNat)
  case atStart =>
    have hrow : Go.Sl.row out = some (vblk out) := row_some (by have := HO1.out.ints.cap; simp at this; omega)
    have hl := HO1.out.lt _ hrow
    have hsz0 := CO3.out.lt
    exact ⟨0, Nat.zero_le _, rfl, CN3.out.below ((Below.refl _ _).alloc (Nat.le_refl _) _), CO3.out.below ((Below.refl _ _).alloc (Nat.le_refl _) _), by rw [← hsz3]; exact heap_alloc_new _ _, by rw [dz_ones]; exact HO1.out.alloc _, by omega, by omega, by omega, by omega, by simp; omega, B3.out.alloc B3.out.size _⟩
  case round =>
    obtain ⟨k, hk, rfl, cn, co, cd, od, n1, n2, n3, n4, n5, hb⟩ := hrel
    have kd := cd.cell
    by_cases hlt : k < N2
    · have hkl : k < (dz (fzE N2 k)).length := by rw [dz_length, fzE_length hk]; exact hlt
      have ck := od.cell hkl
      have fk := od.frozen hkl
      have eb : (vat out k).block = vblk out := vat_block _ _
      have od2 := od.set hkl (-1)
      have hst : (dz (fzE N2 k)).set k (-1) = dz (fzE N2 (k + 1)) := by rw [← fzE_succ hlt, dz_set]; rfl
      rw [hst] at od2
      have OD2 := Lib.hid od2
      have CN4 := Lib.hid (cn.other (p := vat out k) (by rw [eb]; exact Ne.symm n1) (.int .i64 (-1)))
      have CO4 := Lib.hid (co.other (p := vat out k) (by rw [eb]; exact Ne.symm n2) (.int .i64 (-1)))
      have CD4 := Lib.hid (cd.other (p := vat out k) (by rw [eb]; exact Ne.symm n3) (.int .i64 (-1)))
      have HB4 := Lib.hid (hb.setCell (p := vat out k) (by rw [eb]; exact n4) (.int .i64 (-1)))
      clear od od2 hst cn co cd hb eb
      go_wp2_with fail
      go_roundw
      case rel => exact ⟨k + 1, by omega, by go_num, CN4.out, CO4.out, CD4.out, OD2.out, n1, n2, n3, n4, by simpa using n5, HB4.out⟩
      case measure => simp [intOf]; omega
    · obtain rfl : k = N2 := by omega
      rw [fzE_all] at od
      have CN4 := Lib.hid cn; have CO4 := Lib.hid co; have CD4 := Lib.hid cd; have OD4 := Lib.hid od; have HB4 := Lib.hid hb
      clear cn co cd od hb kd CN3 CO3 HO1 B3
      go_wp2_with fail
      obtain ⟨W5, hW5⟩ : ∃ W, W = wr.alloc (.cells #[fnV (W2.heap.size + 1) w.heap.size W1.heap.size wr.heap.size] 1) := ⟨_, rfl⟩
      have kf : Cel W5 wr.heap.size (fnV (W2.heap.size + 1) w.heap.size W1.heap.size wr.heap.size) 1 := by rw [hW5]; exact heap_alloc_new _ _
      have b5 : Below wr.heap.size wr W5 := by rw [hW5]; exact (Below.refl _ _).alloc (Nat.le_refl _) _
      have l1 := CD4.out.lt
      have l2 := kf.lt
      have l3 := b5.size
      have fs : FS w.heap.size W5.heap.size (W2.heap.size + 1) w.heap.size W1.heap.size wr.heap.size n out (.slice none 0 0) (List.replicate k 0) [] [] W5 :=
        ⟨CD4.out.below b5, CN4.out.below b5, CO4.out.below b5, kf, (OD4.out.below b5).low (by omega), ro_nil0 _ _, by omega, by omega⟩
      have HF5 := Lib.hid fs
      have B5 := Lib.hid (Below.chain HB4.out b5)
      clear fs kf b5 l1 l2 l3 CN4 CO4 CD4 OD4 HB4
      subst hW5
      refine (fill_calls n _ _ _ _ _ _ h1 h6 out (n + 1) (List.replicate k 0) _ [] [] _ HF5.out (by rw [List.length_replicate]; exact HN2.out.symm) (fun x hx => by have := List.eq_of_mem_replicate hx; omega) (by rw [List.count_replicate_self]; have := HN2.out; omega) (by
        have := HLEN.out
        unfold fillA at this
        rw [HN2.out] at this
        simp only [List.length_nil]; omega)).mono ?_
      rintro e u ⟨rfl, ⟨ov2, vs2, fs⟩, hb⟩
      have hfa : fillR n (n + 1) (List.replicate k 0) = fillA n := by unfold fillA; rw [HN2.out]
      rw [List.nil_append, hfa] at fs
      have so2 := fs.ro.rows.isSl
      have ko := fs.ko.cell
      have HF6 := Lib.hid fs
      have B6 := Lib.hid (Below.trans B5.out hb)
      clear fs hb hfa HF5 B5
      go_wp2_with fail
      refine (clipRows_calls ov2 vs2 _ _ _ HF6.out.ro).mono ?_
      rintro e w3 ⟨rfl, u', rfl, hu⟩
      have HU := Lib.hid (hu.low HF6.out.lts.2.2.2.2.2.2.2.1)
      have su := hu.rows.isSl
      clear hu ko
      go_wp2_with fail
      go_ret2
      exact ⟨_, vs2, rfl, HU.out, B6.out⟩

end Go.Proofs.Ytplekfgadbjgdaa


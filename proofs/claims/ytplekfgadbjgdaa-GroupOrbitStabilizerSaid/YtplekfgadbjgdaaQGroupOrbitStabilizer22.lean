/- timbmake.Perms and the fact grouped, walked. -/
import Derived.Test.YtplekfgadbjgdaaQGroupOrbitStabilizer0
import Derived.Test.YtplekfgadbjgdaaQGroupOrbitStabilizer1
import Derived.Test.YtplekfgadbjgdaaQGroupOrbitStabilizer2
import Derived.Test.YtplekfgadbjgdaaQGroupOrbitStabilizer3
import Derived.Test.YtplekfgadbjgdaaQGroupOrbitStabilizer4
import Derived.Test.YtplekfgadbjgdaaQGroupOrbitStabilizer5
import Derived.Test.YtplekfgadbjgdaaQGroupOrbitStabilizer7
import Derived.Test.YtplekfgadbjgdaaQGroupOrbitStabilizer8
import Derived.Test.YtplekfgadbjgdaaQGroupOrbitStabilizer11
import Derived.Test.YtplekfgadbjgdaaQGroupOrbitStabilizer12
import Derived.Test.YtplekfgadbjgdaaQGroupOrbitStabilizer13
import Derived.Test.YtplekfgadbjgdaaQGroupOrbitStabilizer14
import Derived.Test.YtplekfgadbjgdaaQGroupOrbitStabilizer15
import Derived.Test.YtplekfgadbjgdaaQGroupOrbitStabilizer16
import Derived.Test.YtplekfgadbjgdaaQGroupOrbitStabilizer17
import Derived.Test.YtplekfgadbjgdaaQGroupOrbitStabilizer18
import Derived.Test.YtplekfgadbjgdaaQGroupOrbitStabilizer19
import Derived.Test.YtplekfgadbjgdaaQGroupOrbitStabilizer21

namespace Go.Proofs.Ytplekfgadbjgdaa
open Go.RowKit Go.Sl Go.Mp Go.Maps

theorem RowsV.takeTo {w : World} {v : Value} {vs : List Value} {xss : List (List Int)} (h : RowsV w v vs xss) {k m : Nat} (hk : k ≤ xss.length) (h3 : k ≤ m) (hm : m ≤ vcap v) : RowsV w (vcut v 0 k m 1) (vs.take k) (xss.take k) := by
  have hl := h.len
  refine ⟨?_, by rw [List.length_take, List.length_take, h.2.1], fun i hi => ?_⟩
  · have := h.1.cut (l := 0) (r := k) (m := m) (Nat.zero_le _) (by omega) h3 hm
    simpa using this
  · rw [List.length_take] at hi
    have h1 : nthv (vs.take k) i = nthv vs i := by simp [nthv, show i < k by omega]
    have h2 : nthr (xss.take k) i = nthr xss i := by simp [nthr, show i < k by omega]
    rw [h1, h2]
    exact h.row (by omega)

set_option maxHeartbeats 4000000 in
set_option maxRecDepth 100000 in
theorem perms_calls (n most : Nat) (raw : Value) (rvs : List Value) (R : List (List Int)) (w : World) (hr : RowsV w raw rvs R) (hz : ∀ r ∈ R, ∀ x ∈ r, I64 x) (hn : n ≤ 9) (hm : most ≤ 100) :
    Calls Try.prog 31 #[.int .i64 n, raw, .int .i64 most] w fun e w' => ∃ v, e = .returned v ∧ OwnR.apart w' w.heap.size v ((R.take most).map (permL n)) ∧ Below w.heap.size w w' := by
  have sr := hr.isSl
  have lr := hr.len
  have hcap := sr.le
  have i63 := sr.i63
  obtain ⟨L, hL⟩ : ∃ L, R.length = L := ⟨_, rfl⟩
  rw [hL] at lr
  rw [lr] at hcap i63
  obtain ⟨k, hk⟩ : ∃ k, k = min L most := ⟨_, rfl⟩
  have hk1 : k ≤ L := by omega
  have hk2 : k ≤ most := by omega
  have hcut := hr.takeTo (k := k) (m := vcap raw) (by omega) (by omega) (Nat.le_refl _)
  have htk : R.take most = R.take k := by rw [List.take_eq_take_iff]; omega
  rw [htk]
  obtain ⟨Y, hY⟩ : ∃ Y, R.take k = Y := ⟨_, rfl⟩
  rw [hY] at hcut ⊢
  have hYl : Y.length = k := by rw [← hY, List.length_take]; omega
  have hYz : ∀ r ∈ Y, ∀ x ∈ r, I64 x := fun r hr => hz r (by rw [← hY] at hr; exact List.mem_of_mem_take hr)
  have sc := hcut.isSl
  have lc := hcut.len
  rw [hYl] at lc
  have hmin : min (L : Int) (most : Int) = (k : Int) := by omega
  have HC := Lib.hid hcut; have HYL := Lib.hid hYl; have HYZ := Lib.hid hYz
  clear hr hz hcut htk hY hYl hYz hL hk
  go_enter Try.func31, Try.ntmps31
  go_wp2_with fail
  clear hmin
  go_loopw [7, 17] (fun out i wr => ∃ q : Nat, q ≤ k ∧ i = .int .i64 q ∧ OwnR.apart wr w.heap.size out ((Y.take q).map (permL n)) ∧ Below w.heap.size w wr) (fun _ i _ => k - (intOf i).toNat)
  case atStart => exact ⟨0, Nat.zero_le _, rfl, by simpa using ownRA_nil w w.heap.size, Below.refl _ _⟩
  case round =>
    obtain ⟨q, hq, rfl, ho, hbr⟩ := hrel
    have hbs := hbr.size
    have so := ho.own.isSl
    by_cases hlt : q < k
    · have hqY : q < Y.length := by rw [HYL.out]; exact hlt
      have cr := (HC.out.below hbr).cell (i := q) hqY
      have rr := (HC.out.below hbr).row (i := q) hqY
      rw [nthr_lt hqY] at rr
      obtain ⟨r, hr⟩ : ∃ r, nthv (rvs.take k) q = r := ⟨_, rfl⟩
      rw [hr] at cr rr
      have srr := rr.isSl
      have hzr := HYZ.out _ (List.getElem_mem hqY)
      have hnx : (Y.take q).map (permL n) ++ [permL n Y[q]] = (Y.take (q + 1)).map (permL n) := by rw [List.take_succ_eq_append_getElem hqY, List.map_append]; rfl
      have RR := Lib.hid rr; have HZR := Lib.hid hzr; have HO := Lib.hid ho; have HB := Lib.hid hbr; have HNX := Lib.hid hnx
      clear rr hr hzr ho hbr hnx
      go_wp2_with fail
      refine (perm_calls n r Y[q] _ RR.out (by omega) HZR.out).mono ?_
      rintro e w1 ⟨pv, rfl, hp, hb1⟩
      have sp := hp.isSl
      have hz1 := hb1.size
      have hap : 0 < (permL n Y[q]).length → row u7 ≠ some (vblk pv) := fun h0 e => by
        have h1 := (HO.out.own.lt _ e).2
        have h2 := (hp.lt _ (row_some (by have := hp.ints.cap; omega))).1
        omega
      have HP := Lib.hid hp.ints; have HO1 := Lib.hid (HO.out.below hb1); have HB1 := Lib.hid (Below.chain HB.out hb1); have HAP := Lib.hid hap
      clear hp hb1 hap
      go_wp2_with (at_builtin; refine wpList_pushRow (v := u7) rfl _ _ rfl rfl rfl HO1.out HP.out (by omega) (by rw [List.length_map, List.length_take]; omega) HAP.out ?_; intro v2 w2 ho2 hg2 hr2; have s2 := ho2.own.isSl)
      rw [HNX.out] at ho2
      have hb2 := Below_of_grown HB1.out hg2 (by omega) (fun b hb => (HO1.out.own.lt b hb).1)
      go_roundw
      case rel => exact ⟨q + 1, by omega, by go_num, ho2, hb2⟩
      case measure => (simp [intOf]; try omega)
    · obtain rfl : q = k := by omega
      rw [List.take_of_length_le (by rw [HYL.out]; exact Nat.le_refl _)] at ho
      have HO := Lib.hid ho; have HB := Lib.hid hbr
      clear ho hbr
      go_wp2_with fail
      go_ret
      exact ⟨_, rfl, HO.out, HB.out⟩

/-! ### grouped -/
theorem card3 : HasCard (Gen 3 [[1, 2, 0]]) 3 := by
  refine ⟨[[0, 1, 2], [1, 2, 0], [2, 0, 1]], by decide, rfl, fun p => ⟨fun hp => ?_, fun hp => ?_⟩⟩
  · have g0 : Gen 3 [[1, 2, 0]] [0, 1, 2] := .one
    have g1 : Gen 3 [[1, 2, 0]] [1, 2, 0] := Gen.mul (g := [1, 2, 0]) g0 (by simp)
    have g2 : Gen 3 [[1, 2, 0]] [2, 0, 1] := Gen.mul (g := [1, 2, 0]) g1 (by simp)
    simp only [List.mem_cons, List.not_mem_nil, or_false] at hp
    rcases hp with rfl | rfl | rfl
    · exact g0
    · exact g1
    · exact g2
  · induction hp with
    | one => decide
    | mul _ hg ih =>
      rw [List.mem_singleton.1 hg]
      simp only [List.mem_cons, List.not_mem_nil, or_false] at ih
      rcases ih with rfl | rfl | rfl <;> decide
    | inv _ hg ih =>
      rw [List.mem_singleton.1 hg]
      simp only [List.mem_cons, List.not_mem_nil, or_false] at ih
      rcases ih with rfl | rfl | rfl <;> decide
theorem rows_lit1 (w : World) (xs : List Int) (v : Value) (hv : Ints w v xs) : RowsV (w.alloc (.cells #[v] 22)) (.slice (some ⟨w.heap.size, 0, none⟩) 1 1) [v] [xs] :=
  ⟨sl_one w v _, rfl, fun i hi => by
    simp only [List.length_cons, List.length_nil] at hi
    obtain rfl : i = 0 := by omega
    exact hv.alloc _⟩

set_option maxHeartbeats 4000000 in
set_option maxRecDepth 100000 in
theorem grouped_calls (w : World) :
    Calls Try.prog 33 #[] w fun e w' => e = .returned (.bool true) ∧ Below w.heap.size w w' := by
  have hp : ∀ g ∈ ([[1, 2, 0]] : List (List Int)), Pm 3 g := fun g hg => by rw [List.mem_singleton.1 hg]; exact ⟨⟨by decide, by decide⟩, rfl⟩
  have HP := Lib.hid hp
  clear hp
  have hl : Ints (w.alloc (.cells #[.int .i64 1, .int .i64 2, .int .i64 0] 3)) (.slice (some ⟨w.heap.size, 0, none⟩) 3 3) [1, 2, 0] := ints_lit [1, 2, 0] (by simp) rfl rfl (by decide)
  have hr := rows_lit1 _ [1, 2, 0] _ hl
  rw [World.size_alloc] at hr
  have HR := Lib.hid hr
  clear hl hr
  go_enter Try.func33, Try.ntmps33
  go_wp2_with fail

  refine (gorder_calls 3 _ _ [[1, 2, 0]] _ HR.out HP.out (by decide) (by decide)).mono ?_
  rintro e w1 ⟨k, rfl, hk, -, hb⟩
  obtain rfl : k = 3 := hk.uniq card3
  have HB := Lib.hid (Below.chain (((Below.refl _ _).alloc (Nat.le_refl _) _).alloc (by simp) _) hb)
  clear hb hk
  go_wp2_with fail
  go_ret
  exact ⟨rfl, HB.out⟩

end Go.Proofs.Ytplekfgadbjgdaa


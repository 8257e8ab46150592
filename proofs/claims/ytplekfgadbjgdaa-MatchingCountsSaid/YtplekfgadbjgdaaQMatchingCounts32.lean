/- temperleylieb: Close, Closure, walked. -/
import Derived.Test.YtplekfgadbjgdaaQMatchingCounts0
import Derived.Test.YtplekfgadbjgdaaQMatchingCounts1
import Derived.Test.YtplekfgadbjgdaaQMatchingCounts10
import Derived.Test.YtplekfgadbjgdaaQMatchingCounts11
import Derived.Test.YtplekfgadbjgdaaQMatchingCounts12
import Derived.Test.YtplekfgadbjgdaaQMatchingCounts13
import Derived.Test.YtplekfgadbjgdaaQMatchingCounts14
import Derived.Test.YtplekfgadbjgdaaQMatchingCounts15
import Derived.Test.YtplekfgadbjgdaaQMatchingCounts16
import Derived.Test.YtplekfgadbjgdaaQMatchingCounts17
import Derived.Test.YtplekfgadbjgdaaQMatchingCounts18
import Derived.Test.YtplekfgadbjgdaaQMatchingCounts19
import Derived.Test.YtplekfgadbjgdaaQMatchingCounts20
import Derived.Test.YtplekfgadbjgdaaQMatchingCounts21
import Derived.Test.YtplekfgadbjgdaaQMatchingCounts22
import Derived.Test.YtplekfgadbjgdaaQMatchingCounts23
import Derived.Test.YtplekfgadbjgdaaQMatchingCounts24
import Derived.Test.YtplekfgadbjgdaaQMatchingCounts25
import Derived.Test.YtplekfgadbjgdaaQMatchingCounts26
import Derived.Test.YtplekfgadbjgdaaQMatchingCounts27
import Derived.Test.YtplekfgadbjgdaaQMatchingCounts28
import Derived.Test.YtplekfgadbjgdaaQMatchingCounts29
import Derived.Deep.RegionLaw
import Derived.RangeFuncNested
import Derived.RangeFuncBound
import Derived.RangeFuncCalls
import Derived.RangeFuncLeaves
import Derived.RangeFuncBox
import Derived.Shelf.Abstract
import Derived.Shelf.RegionOpen
import Derived.OwnWalkIn
import Derived.TacticsInMore
import Derived.LoopNIn
import Derived.LoopIn
import Derived.Maps.AppendAt
namespace Go.Proofs.Ytplekfgadbjgdaa
open Go.RowKit Go.Sl
open Go.TL (lnAt addLn tlWalk tlLoops putLines putL closeLines closeL)

theorem closeLines_length (n : Nat) (D : List Nat) (i : Nat) : (closeLines n D i).length = 2 * n := by
  induction i with
  | zero => simp [closeLines]
  | succ i ih =>
    rw [closeLines]
    split <;> split <;> simp only [addLn_length, ih]
theorem closeLines_rows (n : Nat) (D : List Nat) (i j : Nat) : (lnAt (closeLines n D i) j).length ≤ 4 * i := by
  induction i with
  | zero =>
    have : lnAt (closeLines n D 0) j = [] := by unfold lnAt closeLines; rw [List.getD_eq_getElem?_getD, List.getElem?_replicate]; split <;> rfl
    rw [this]; simp
  | succ i ih =>
    rw [closeLines]
    have k1 := fun L a b => addLn_rows L a b j
    have hX : (lnAt (if i < D.getD i 0 then addLn (closeLines n D i) i (D.getD i 0) else closeLines n D i) j).length ≤ (lnAt (closeLines n D i) j).length + 2 := by
      split
      · exact k1 _ _ _
      · omega
    generalize (if i < D.getD i 0 then addLn (closeLines n D i) i (D.getD i 0) else closeLines n D i) = X at hX ⊢
    split
    · have := k1 X i (n + i); omega
    · omega

set_option maxRecDepth 100000 in
set_option maxHeartbeats 8000000 in
theorem close_calls (n : Nat) (D : List Nat) (dv : Value) (w : World) (hd : Ints w dv (iz D)) (hD : D.length = 2 * n) (hDb : ∀ i, i < 2 * n → D.getD i 0 < 2 * n) (h1 : 1 ≤ n) (h6 : n ≤ 6) (C : Nat) (hcl : closeL n D = some C)
    (hrows : ∀ j, (lnAt (closeLines n D (2 * n)) j).length ≤ 2) :
    Calls Try.prog 104 #[.int .i64 n, dv] w fun e w' => e = .returned (.int .i64 (C : Nat)) ∧ Below w.heap.size w w' := by
  have sd := hd.isSl
  have ld := hd.len
  rw [iz_length, hD] at ld
  obtain ⟨N2, hN2⟩ : ∃ N2, 2 * n = N2 := ⟨_, rfl⟩
  have hN2i : (2 : Int) * (n : Int) = (N2 : Int) := by omega
  rw [hN2] at ld
  have hN2b : N2 ≤ 12 := by omega
  have hnN : n ≤ N2 := by omega
  unfold closeL at hcl
  have HN2 := Lib.hid hN2; have HD := Lib.hid hd; have HDL := Lib.hid hD; have HDB := Lib.hid hDb; have HCL := Lib.hid hcl; have HROWS := Lib.hid hrows
  clear hN2 hd hD hDb hcl hrows
  go_enter Try.func104, Try.ntmps104
  go_wp2_with fail
  refine (newGraph_calls N2 w (by omega) (by omega)).mono ?_
  rintro e W ⟨g, mv, vs0, rfl, hg, hb⟩
  obtain ⟨B, hB⟩ : ∃ B, w.heap.size = B := ⟨_, rfl⟩
  have hg0 : GW W B g mv vs0 (closeLines n D 0) := by show GW W B g mv vs0 (List.replicate (2 * n) []); rw [HN2.out, ← hB]; exact hg
  rw [hB] at hb
  have HG := Lib.hid hg0; have HB := Lib.hid hb
  clear hg hg0 hb
  go_wp2_with fail
  go_loopw [13] (fun i wr => ∃ (k : Nat) (vs : List Value), k ≤ N2 ∧ i = .int .i64 k ∧ GW wr B g mv vs (closeLines n D k) ∧ Below B w wr) (fun i _ => N2 - (intOf i).toNat)
  case atStart => exact ⟨0, vs0, Nat.zero_le _, rfl, HG.out, HB.out⟩
  case round =>
    rename World => V
    obtain ⟨k, vs, hk, rfl, hg, hbr⟩ := hrel
    by_cases hlt : k < N2
    · have hlt2 : k < 2 * n := by rw [HN2.out]; exact hlt
      have cd := (HD.out.below (by rw [hB]; exact hbr)).cell (k := k) (by rw [iz_length, HDL.out]; exact hlt2)
      rw [getD_iz (by rw [HDL.out]; exact hlt2)] at cd
      have q1 := HDB.out k hlt2
      have hlen := closeLines_length n D k
      have hrw := fun j => closeLines_rows n D k j
      have hstep : closeLines n D (k + 1) = (if k < n then addLn (if k < D.getD k 0 then addLn (closeLines n D k) k (D.getD k 0) else closeLines n D k) k (n + k) else (if k < D.getD k 0 then addLn (closeLines n D k) k (D.getD k 0) else closeLines n D k)) := rfl
      obtain ⟨L, hL⟩ : ∃ L, closeLines n D k = L := ⟨_, rfl⟩
      rw [hL] at hg hlen hrw hstep
      obtain ⟨p, hp⟩ : ∃ p, D.getD k 0 = p := ⟨_, rfl⟩
      rw [hp] at cd q1 hstep
      rw [HN2.out] at q1 hlen
      have HG1 := Lib.hid hg; have HST := Lib.hid hstep; have HRW := Lib.hid hrw; have HLEN := Lib.hid hlen; have HBR := Lib.hid hbr
      clear hg hstep hrw hlen hbr hp hL
      have hwr1 : IntKind.i64.wrap ((n : Int) + (k : Int)) = (n : Int) + (k : Int) := IntWalk.i64_in _ ⟨by omega, by omega⟩
      by_cases hkp : k < p
      · rw [if_pos hkp] at HST
        go_wp2_with fail
        refine (line_calls k p B g mv vs L V HG1.out (by rw [HLEN.out]; omega) (by rw [HLEN.out]; omega) (fun j => by have := HRW.out j; omega)).mono ?_
        rintro e V2 ⟨rfl, ⟨vs1, hg1⟩, hb1⟩
        have HG2 := Lib.hid hg1; have HB2 := Lib.hid (HBR.out.trans hb1)
        have HR2 := Lib.hid (fun j => addLn_rows L k p j)
        clear hg1 hb1
        by_cases hkn : k < n
        · rw [if_pos hkn] at HST
          have hc2 := line_calls k (n + k) B g mv vs1 (addLn L k p) V2 HG2.out (by rw [addLn_length, HLEN.out]; omega) (by rw [addLn_length, HLEN.out]; omega) (fun j => by have h1 := HRW.out j; have h2 := HR2.out j; omega)
          rw [Int.natCast_add] at hc2
          have HC2 := Lib.hid hc2
          clear hc2
          go_wp2_with fail
          refine HC2.out.mono ?_
          rintro e V3 ⟨rfl, ⟨vs2, hg2⟩, hb2⟩
          have HG3 := Lib.hid hg2; have HB3 := Lib.hid (HB2.out.trans hb2)
          clear hg2 hb2 HC2
          go_wp2_with fail
          go_roundw
          case rel => exact ⟨k + 1, vs2, by omega, by go_num, by rw [HST.out]; exact HG3.out, HB3.out⟩
          case measure => simp [intOf]; omega
        · rw [if_neg hkn] at HST
          go_wp2_with fail
          go_roundw
          case rel => exact ⟨k + 1, vs1, by omega, by go_num, by rw [HST.out]; exact HG2.out, HB2.out⟩
          case measure => simp [intOf]; omega
      · rw [if_neg hkp] at HST
        by_cases hkn : k < n
        · rw [if_pos hkn] at HST
          have hc2 := line_calls k (n + k) B g mv vs L V HG1.out (by rw [HLEN.out]; omega) (by rw [HLEN.out]; omega) (fun j => by have h1 := HRW.out j; omega)
          rw [Int.natCast_add] at hc2
          have HC2 := Lib.hid hc2
          clear hc2
          go_wp2_with fail
          refine HC2.out.mono ?_
          rintro e V3 ⟨rfl, ⟨vs2, hg2⟩, hb2⟩
          have HG3 := Lib.hid hg2; have HB3 := Lib.hid (HBR.out.trans hb2)
          clear hg2 hb2 HC2
          go_wp2_with fail
          go_roundw
          case rel => exact ⟨k + 1, vs2, by omega, by go_num, by rw [HST.out]; exact HG3.out, HB3.out⟩
          case measure => simp [intOf]; omega
        · rw [if_neg hkn] at HST
          go_wp2_with fail
          go_roundw
          case rel => exact ⟨k + 1, vs, by omega, by go_num, by rw [HST.out]; exact HG1.out, HBR.out⟩
          case measure => simp [intOf]; omega
    · obtain rfl : k = N2 := by omega
      have HG1 := Lib.hid hg; have HBR := Lib.hid hbr
      clear hg hbr
      have hlo := HG1.out.lowAt
      have hl := loops_calls B V.heap.size g (2 * n) C mv vs _ V HG1.out (by rw [closeLines_length]) (by omega) (by rw [← HN2.out]; exact HCL.out) (by rw [← HN2.out]; exact HROWS.out) hlo
      have HL := Lib.hid hl
      clear hl hlo
      go_wp2_with fail
      refine HL.out.mono ?_
      rintro e V2 ⟨rfl, hb2, -⟩
      have HB2 := Lib.hid (HBR.out.trans hb2)
      clear hb2 HL
      go_wp2_with fail
      go_ret
      exact ⟨rfl, by rw [hB]; exact HB2.out⟩

set_option maxRecDepth 100000 in
theorem tclosure_calls (n : Nat) (D : List Nat) (dv : Value) (w : World) (hd : Ints w dv (iz D)) (hok : TOk n D) (h1 : 1 ≤ n) (h6 : n ≤ 6) (C : Nat) (hcl : closeL n D = some C)
    (hrows : ∀ j, (lnAt (closeLines n D (2 * n)) j).length ≤ 2) :
    Calls Try.prog 64 #[.int .i64 n, dv] w fun e w' => e = .returned (.tuple #[.int .i64 (C : Nat), .int .i64 0]) ∧ Below w.heap.size w w' := by
  have sd := hd.isSl
  have h2 : ∀ V, Below w.heap.size w V → _ := fun V hV => close_calls n D dv V (hd.below hV) hok.len hok.lt h1 h6 C hcl hrows
  have H2 := Lib.hid h2
  have hc := tcheck_calls n D dv w hd hok h1 h6
  have HC := Lib.hid hc
  clear h2 hd hcl hrows hok hc
  go_enter Try.func64, Try.ntmps64
  go_wp2_with fail
  refine HC.out.mono ?_
  rintro e V ⟨rfl, hb⟩
  have HB := Lib.hid hb
  clear hb
  go_wp2_with fail
  refine (H2.out V HB.out).mono ?_
  rintro e V2 ⟨rfl, hb2⟩
  have HB2 := Lib.hid (HB.out.trans (hb2.mono HB.out.size))
  clear hb2
  go_wp2_with fail
  go_ret2
  exact ⟨rfl, HB2.out⟩

end Go.Proofs.Ytplekfgadbjgdaa


/- Moves between closed braids: the ways of markov.local, walked (part of Markov4). -/
import Derived.Test.YtmcecmnbdcbehaaQMarkovLocal0
import Derived.Test.YtmcecmnbdcbehaaQMarkovLocal1
import Derived.Test.YtmcecmnbdcbehaaQMarkovLocal2
import Derived.Test.YtmcecmnbdcbehaaQMarkovLocal3
import Derived.Test.YtmcecmnbdcbehaaQMarkovLocal4
import Derived.Test.YtmcecmnbdcbehaaQMarkovLocal5
import Derived.Test.YtmcecmnbdcbehaaQMarkovLocal6
import Derived.Test.YtmcecmnbdcbehaaQMarkovLocal9
import Derived.Test.YtmcecmnbdcbehaaQMarkovLocal10
import Derived.Test.YtmcecmnbdcbehaaQMarkovLocal11
import Derived.Test.YtmcecmnbdcbehaaQMarkovLocal13
import Derived.Test.YtmcecmnbdcbehaaQMarkovLocal14
import Derived.Test.YtmcecmnbdcbehaaQMarkovLocal15
import Derived.RangeFuncNested
import Derived.RangeFuncBound
import Derived.RangeFuncCalls
import Derived.RangeFuncLeaves
import Derived.RangeFuncBox
import Derived.Shelf.Abstract
import Derived.Shelf.RegionOpen
import Derived.OwnWalkIn
import Derived.TacticsInMore
import Derived.LoopNIn
import Derived.LoopIn
import Derived.Maps.AppendAt
namespace Go.Proofs.Ytmcecmnbdcbehaa
open Go.RowKit Go.Sl Go.Maps

set_option maxHeartbeats 2000000 in
set_option maxRecDepth 100000 in
theorem local4_none (n : Int) (v : Value) (xs : List Int) (j : Nat) (l : Int) (w : World) (hv : Ints w v xs) (hn : 1 ≤ n) (hn6 : n ≤ 6) (hl : xs.length ≤ 1000) (hx : ∀ x ∈ xs, -1000 ≤ x ∧ x ≤ 1000) (hl1 : -1000 ≤ l) (hl2 : l ≤ 1000) (hj : j ≤ 1000) (hjl : ¬ j + 3 ≤ xs.length) :
    Calls Try.prog 149 #[.int .i64 n, v, .agg #[.int .i64 4, .int .i64 j, .int .i64 l]] w fun e w' => ∃ u, e = .returned (.tuple #[u, .int .i64 1]) ∧ OwnI w' w.heap.size u ([]) ∧ Below w.heap.size w w' := by
  have hmm := @run_makeMap Try.prog
  have hs1 : (w.alloc (.cells #[.int .i64 4, .int .i64 j, .int .i64 l] 57)).heap.size = w.heap.size + 1 := by simp
  obtain ⟨u1, u2, u3, u4, r1, r2, r3, r4, b4, hlook⟩ := mmap (w.alloc (.cells #[.int .i64 4, .int .i64 j, .int .i64 l] 57))
  have r5 : (Instr.lookup 181 (.map (some (w.heap.size + 1))) (.int .i64 4) false).run Try.prog u4 = .ok (.int .i64 3) u4 := by have := hlook 4 (by decide) (by decide); rw [hs1] at this; exact this
  rw [hs1] at r1 r2 r3 r4
  have hb1 : Below w.heap.size w (w.alloc (.cells #[.int .i64 4, .int .i64 j, .int .i64 l] 57)) := (Below.refl _ _).alloc (Nat.le_refl _) _
  have hb4 : Below w.heap.size w u4 := Below.chain hb1 b4
  have c0 : u4.cell? ⟨w.heap.size, 0, none⟩ = some (.int .i64 4) := by rw [b4.cell (by rw [hs1]; exact Nat.lt_succ_self _)]; simp [go_sem]
  have c1 : u4.cell? ⟨w.heap.size, 1, none⟩ = some (.int .i64 j) := by rw [b4.cell (by rw [hs1]; exact Nat.lt_succ_self _)]; simp [go_sem]
  have c2 : u4.cell? ⟨w.heap.size, 2, none⟩ = some (.int .i64 l) := by rw [b4.cell (by rw [hs1]; exact Nat.lt_succ_self _)]; simp [go_sem]
  have sv := hv.isSl
  have lv := hv.len
  have hcap := hv.cap
  have hv4 := hv.below hb4
  have HV := Lib.hid hv4
  have HX := Lib.hid hx
  have HB := Lib.hid hb4
  have hbs : w.heap.size + 1 ≤ u4.heap.size := by rw [← hs1]; exact b4.size
  have ne4 : w.heap.size < u4.heap.size := by omega
  clear hv hx hb1 hb4 b4 hlook hs1 hv4
  go_enter Try.func149, Try.ntmps149
  go_wp2_with fail
  refine (part_none v xs j 3 _ HV.out hl (by decide) hj hjl).mono ?_
  rintro e w' ⟨rfl, rfl⟩
  go_wp2_with fail
  go_ret2
  exact ⟨_, rfl, ownI_nil _ _, HB.out⟩

set_option maxHeartbeats 2000000 in
set_option maxRecDepth 100000 in
theorem local4_ne (n : Int) (v : Value) (xs : List Int) (j : Nat) (l : Int) (w : World) (hv : Ints w v xs) (hn : 1 ≤ n) (hn6 : n ≤ 6) (hl : xs.length ≤ 1000) (hx : ∀ x ∈ xs, -1000 ≤ x ∧ x ≤ 1000) (hl1 : -1000 ≤ l) (hl2 : l ≤ 1000) (hj : j ≤ 1000) (hjl : j + 3 ≤ xs.length) (p0 : Int) (hp0 : nth xs (j + 0) = p0) (hp01 : -1000 ≤ p0) (hp02 : p0 ≤ 1000) (p1 : Int) (hp1 : nth xs (j + 1) = p1) (hp11 : -1000 ≤ p1) (hp12 : p1 ≤ 1000) (p2 : Int) (hp2 : nth xs (j + 2) = p2) (hp21 : -1000 ≤ p2) (hp22 : p2 ≤ 1000) (h : ¬ p0 = p2) :
    Calls Try.prog 149 #[.int .i64 n, v, .agg #[.int .i64 4, .int .i64 j, .int .i64 l]] w fun e w' => ∃ u, e = .returned (.tuple #[u, .int .i64 4]) ∧ OwnI w' w.heap.size u ([]) ∧ Below w.heap.size w w' := by
  have hmm := @run_makeMap Try.prog
  have hs1 : (w.alloc (.cells #[.int .i64 4, .int .i64 j, .int .i64 l] 57)).heap.size = w.heap.size + 1 := by simp
  obtain ⟨u1, u2, u3, u4, r1, r2, r3, r4, b4, hlook⟩ := mmap (w.alloc (.cells #[.int .i64 4, .int .i64 j, .int .i64 l] 57))
  have r5 : (Instr.lookup 181 (.map (some (w.heap.size + 1))) (.int .i64 4) false).run Try.prog u4 = .ok (.int .i64 3) u4 := by have := hlook 4 (by decide) (by decide); rw [hs1] at this; exact this
  rw [hs1] at r1 r2 r3 r4
  have hb1 : Below w.heap.size w (w.alloc (.cells #[.int .i64 4, .int .i64 j, .int .i64 l] 57)) := (Below.refl _ _).alloc (Nat.le_refl _) _
  have hb4 : Below w.heap.size w u4 := Below.chain hb1 b4
  have c0 : u4.cell? ⟨w.heap.size, 0, none⟩ = some (.int .i64 4) := by rw [b4.cell (by rw [hs1]; exact Nat.lt_succ_self _)]; simp [go_sem]
  have c1 : u4.cell? ⟨w.heap.size, 1, none⟩ = some (.int .i64 j) := by rw [b4.cell (by rw [hs1]; exact Nat.lt_succ_self _)]; simp [go_sem]
  have c2 : u4.cell? ⟨w.heap.size, 2, none⟩ = some (.int .i64 l) := by rw [b4.cell (by rw [hs1]; exact Nat.lt_succ_self _)]; simp [go_sem]
  have sv := hv.isSl
  have lv := hv.len
  have hcap := hv.cap
  have hv4 := hv.below hb4
  have HV := Lib.hid hv4
  have HX := Lib.hid hx
  have HB := Lib.hid hb4
  have hbs : w.heap.size + 1 ≤ u4.heap.size := by rw [← hs1]; exact b4.size
  have ne4 : w.heap.size < u4.heap.size := by omega
  have hlc : Below u4.heap.size u4 (u4.alloc (.cells #[.int .i64 l, .int .i64 (-l)] 3)) := (Below.refl _ _).alloc (Nat.le_refl _) _
  have d0 : (u4.alloc (.cells #[.int .i64 l, .int .i64 (-l)] 3)).cell? ⟨w.heap.size, 0, none⟩ = some (.int .i64 4) := (hlc.cell ne4).trans c0
  have d1 : (u4.alloc (.cells #[.int .i64 l, .int .i64 (-l)] 3)).cell? ⟨w.heap.size, 1, none⟩ = some (.int .i64 j) := (hlc.cell ne4).trans c1
  have hc1 := hv4.cut (l := 0) (r := j) (m := vcap v) (Nat.zero_le _) (by omega) (by omega) (by omega)
  have hc2 := hv4.cut (l := j + 3) (r := xs.length) (m := vcap v) (by omega) (Nat.le_refl _) (by omega) (by omega)
  have sc1 := hc1.isSl
  have sc2 := hc2.isSl
  have HC1 := Lib.hid (hc1.below hlc)
  have HC2 := Lib.hid (hc2.below hlc)
  have HLC := Lib.hid (Below.chain hb4 hlc)
  have e0 : (u4.alloc (.cells #[.int .i64 l, .int .i64 (-l)] 3)).drew.cell? ⟨w.heap.size, 0, none⟩ = some (.int .i64 4) := d0
  have e1 : (u4.alloc (.cells #[.int .i64 l, .int .i64 (-l)] 3)).drew.cell? ⟨w.heap.size, 1, none⟩ = some (.int .i64 j) := d1
  have hlit : Ints (u4.alloc (.cells #[.int .i64 l, .int .i64 (-l)] 3)) (.slice (some ⟨u4.heap.size, 0, none⟩) 2 2) [l, -l] := ints_lit [l, -l] rfl rfl rfl (by simp)
  have HL := Lib.hid hlit
  clear hv hx hb1 hb4 b4 hlook hs1 hv4 hc1 hc2 hlc hlit
  have hcut := HV.out.cut (l := j) (r := j + 3) (m := vcap v) (by omega) hjl (by omega) (by omega)
  have hcl : ((xs.drop j).take (j + 3 - j)).length = 3 := by simp; omega
  have hnt : ∀ i, i < 3 → nth ((xs.drop j).take (j + 3 - j)) i = nth xs (j + i) := by
    intro i hi
    rw [nth_lt (by rw [hcl]; exact hi), nth_lt (show j + i < xs.length by omega)]
    simp
  have scut := hcut.isSl
  have lcut := hcut.len
  rw [hcl] at lcut
  obtain ⟨L, hL⟩ : ∃ L, vcut v j (j + 3) (vcap v) 1 = L := ⟨_, rfl⟩
  rw [hL] at hcut scut lcut
  have g0 : u4.cell? (vat L 0) = some (.int .i64 p0) := by rw [hcut.cell (by rw [hcl]; decide), hnt 0 (by decide), hp0]
  have k0 := (hcut.below (Below.refl _ _ |>.alloc (Nat.le_refl _) (.cells #[.int .i64 l, .int .i64 (-l)] 3))).cell (k := 0) (by rw [hcl]; decide)
  rw [hnt 0 (by decide), hp0] at k0
  have g1 : u4.cell? (vat L 1) = some (.int .i64 p1) := by rw [hcut.cell (by rw [hcl]; decide), hnt 1 (by decide), hp1]
  have k1 := (hcut.below (Below.refl _ _ |>.alloc (Nat.le_refl _) (.cells #[.int .i64 l, .int .i64 (-l)] 3))).cell (k := 1) (by rw [hcl]; decide)
  rw [hnt 1 (by decide), hp1] at k1
  have g2 : u4.cell? (vat L 2) = some (.int .i64 p2) := by rw [hcut.cell (by rw [hcl]; decide), hnt 2 (by decide), hp2]
  have k2 := (hcut.below (Below.refl _ _ |>.alloc (Nat.le_refl _) (.cells #[.int .i64 l, .int .i64 (-l)] 3))).cell (k := 2) (by rw [hcl]; decide)
  rw [hnt 2 (by decide), hp2] at k2
  clear hcut hcl hnt
  have t1 : (p0 == p2) = false := by simp [h]
  obtain ⟨B0, hB0⟩ : ∃ b : Bool, decide (0 < p0) = b := ⟨_, rfl⟩
  obtain ⟨B1, hB1⟩ : ∃ b : Bool, decide (0 < p1) = b := ⟨_, rfl⟩
  obtain ⟨D, hD⟩ : ∃ D : Int, p0 - p1 = D := ⟨_, rfl⟩
  have wD : IntKind.i64.wrap (p0 - p1) = D := by rw [← hD]; exact IntWalk.i64_in _ ⟨by omega, by omega⟩
  clear hD
  clear h
  go_enter Try.func149, Try.ntmps149
  go_wp2_with fail
  refine (part_some v xs j 3 _ HV.out hl (by decide) hj hjl).mono ?_
  rintro e w' ⟨rfl, rfl⟩
  rw [hL]
  go_wp2_with fail
  go_quiet (fail)
  go_wp2_with fail
  obtain ⟨X, hX⟩ : ∃ X, X = (u4.alloc (.cells #[.int .i64 l, .int .i64 (-l)] 3)).drewN nq := ⟨_, rfl⟩
  rw [← hX]
  have xb : Below u4.heap.size u4 X := by rw [hX]; exact Below.chain ((Below.refl _ _).alloc (Nat.le_refl _) _) (Below.drawn _)
  have xs1 := HC1.out.below (Below.drawn nq)
  have xs2 := HC2.out.below (Below.drawn nq)
  rw [← hX] at xs1 xs2
  have r00 : X.cell? (vat L 0) = some (.int .i64 p0) := by rw [hX]; exact k0
  have x0 : X.drew.cell? (vat L 0) = some (.int .i64 p0) := r00
  have y0 : ∀ o, (X.alloc o).drew.cell? (vat L 0) = some (.int .i64 p0) := fun o => (Below.cell ((Below.refl X.heap.size X).alloc (Nat.le_refl _) o) (World.block_lt_of_cell? X _ r00)).trans r00
  have r10 : X.cell? (vat L 1) = some (.int .i64 p1) := by rw [hX]; exact k1
  have x1 : X.drew.cell? (vat L 1) = some (.int .i64 p1) := r10
  have y1 : ∀ o, (X.alloc o).drew.cell? (vat L 1) = some (.int .i64 p1) := fun o => (Below.cell ((Below.refl X.heap.size X).alloc (Nat.le_refl _) o) (World.block_lt_of_cell? X _ r10)).trans r10
  have r20 : X.cell? (vat L 2) = some (.int .i64 p2) := by rw [hX]; exact k2
  have x2 : X.drew.cell? (vat L 2) = some (.int .i64 p2) := r20
  have y2 : ∀ o, (X.alloc o).drew.cell? (vat L 2) = some (.int .i64 p2) := fun o => (Below.cell ((Below.refl X.heap.size X).alloc (Nat.le_refl _) o) (World.block_lt_of_cell? X _ r20)).trans r20
  have wb : Below X.heap.size X (X.alloc (.cells #[.int .i64 p1, .int .i64 p0, .int .i64 p1] 3)).drew := ((Below.refl _ _).alloc (Nat.le_refl _) _).drew
  have w0 := (wb.cell (by have := xb.size; exact Nat.lt_of_lt_of_le ne4 this)).trans ((xb.cell ne4).trans c0)
  have w1 := (wb.cell (by have := xb.size; exact Nat.lt_of_lt_of_le ne4 this)).trans ((xb.cell ne4).trans c1)
  have HX1 := Lib.hid (xs1.below wb)
  have HX2 := Lib.hid (xs2.below wb)
  have HXL := Lib.hid ((ints_lit (w := X) [p1, p0, p1] rfl rfl rfl (by simp)).below (Below.refl _ _).drew)
  have HXB := Lib.hid (Below.chain HB.out (Below.chain xb wb))
  have HXX := Lib.hid hX
  clear hX xb wb xs1 xs2
  refine wp_region_held_drew (S := (fun w' => w'.cell? (vat L 0) = some (.int .i64 p0) ∧ w'.cell? (vat L 1) = some (.int .i64 p1) ∧ w'.cell? (vat L 2) = some (.int .i64 p2))) (by kernel_rfl) (⟨x0, x1, x2⟩) (fun hHeld => ?_)
  refine' wpAnyH_take (i := 0) (oi := ?oi0) (v := ?v0) ?ha0 (by kernel_rfl) ?hf0 ?hr0 ?hQ0 (Or.inl ⟨?hw0, ?hy0⟩) (by assumption) ?rest0
  case ha0 => (simp only [List.getElem?_toArray, List.getElem?_cons_succ, List.getElem?_cons_zero]; exact rfl)
  case hQ0 => exact fun _ _ _ h => h
  case hf0 => kernel_rfl
  case hr0 => kernel_rfl
  case hw0 => rfl
  case hy0 => (intro w hSw; (try dsimp only at hSw); go_simp; (try with_reducible rfl))
  try simp only [Act.put, List.setIfInBounds_toArray, List.set_cons_zero, List.set_cons_succ]
  refine' wpAnyH_take (i := 1) (oi := ?oi1) (v := ?v1) ?ha1 (by kernel_rfl) ?hf1 ?hr1 ?hQ1 (Or.inl ⟨?hw1, ?hy1⟩) (by assumption) ?rest1
  case ha1 => (simp only [List.getElem?_toArray, List.getElem?_cons_succ, List.getElem?_cons_zero]; exact rfl)
  case hQ1 => exact fun _ _ _ h => h
  case hf1 => kernel_rfl
  case hr1 => kernel_rfl
  case hw1 => rfl
  case hy1 => (intro w hSw; (try dsimp only at hSw); go_simp; (try with_reducible rfl))
  try simp only [Act.put, List.setIfInBounds_toArray, List.set_cons_zero, List.set_cons_succ]
  refine' wpAnyH_take (i := 2) (oi := ?oi2) (v := ?v2) ?ha2 (by kernel_rfl) ?hf2 ?hr2 ?hQ2 (Or.inl ⟨?hw2, ?hy2⟩) (by assumption) ?rest2
  case ha2 => (simp only [List.getElem?_toArray, List.getElem?_cons_succ, List.getElem?_cons_zero]; exact rfl)
  case hQ2 => exact fun _ _ _ h => h
  case hf2 => kernel_rfl
  case hr2 => kernel_rfl
  case hw2 => rfl
  case hy2 => (intro w hSw; (try dsimp only at hSw); go_simp; (try with_reducible rfl))
  try simp only [Act.put, List.setIfInBounds_toArray, List.set_cons_zero, List.set_cons_succ]
  refine' wpAnyH_take (i := 3) (oi := ?oi3) (v := ?v3) ?ha3 (by kernel_rfl) ?hf3 ?hr3 ?hQ3 (Or.inl ⟨?hw3, ?hy3⟩) (by assumption) ?rest3
  case ha3 => (simp only [List.getElem?_toArray, List.getElem?_cons_succ, List.getElem?_cons_zero]; exact rfl)
  case hQ3 => exact fun _ _ _ h => h
  case hf3 => kernel_rfl
  case hr3 => kernel_rfl
  case hw3 => rfl
  case hy3 => (intro w hSw; (try dsimp only at hSw); go_simp; (try with_reducible rfl))
  try simp only [Act.put, List.setIfInBounds_toArray, List.set_cons_zero, List.set_cons_succ]
  refine' wpAnyH_take (i := 4) (oi := ?oi4) (v := ?v4) ?ha4 (by kernel_rfl) ?hf4 ?hr4 ?hQ4 (Or.inl ⟨?hw4, ?hy4⟩) (by assumption) ?rest4
  case ha4 => (simp only [List.getElem?_toArray, List.getElem?_cons_succ, List.getElem?_cons_zero]; exact rfl)
  case hQ4 => exact fun _ _ _ h => h
  case hf4 => kernel_rfl
  case hr4 => kernel_rfl
  case hw4 => rfl
  case hy4 => (intro w hSw; (try dsimp only at hSw); go_simp; (try with_reducible rfl))
  try simp only [Act.put, List.setIfInBounds_toArray, List.set_cons_zero, List.set_cons_succ]
  refine' wpAnyH_take (i := 5) (oi := ?oi5) (v := ?v5) ?ha5 (by kernel_rfl) ?hf5 ?hr5 ?hQ5 (Or.inl ⟨?hw5, ?hy5⟩) (by assumption) ?rest5
  case ha5 => (simp only [List.getElem?_toArray, List.getElem?_cons_succ, List.getElem?_cons_zero]; exact rfl)
  case hQ5 => exact fun _ _ _ h => h
  case hf5 => kernel_rfl
  case hr5 => kernel_rfl
  case hw5 => rfl
  case hy5 => (intro w hSw; (try dsimp only at hSw); go_simp; (try with_reducible rfl))
  try simp only [Act.put, List.setIfInBounds_toArray, List.set_cons_zero, List.set_cons_succ]
  refine' wpAnyH_take (i := 6) (oi := ?oi6) (v := ?v6) ?ha6 (by kernel_rfl) ?hf6 ?hr6 ?hQ6 (Or.inl ⟨?hw6, ?hy6⟩) (by assumption) ?rest6
  case ha6 => (simp only [List.getElem?_toArray, List.getElem?_cons_succ, List.getElem?_cons_zero]; exact rfl)
  case hQ6 => exact fun _ _ _ h => h
  case hf6 => kernel_rfl
  case hr6 => kernel_rfl
  case hw6 => rfl
  case hy6 => (intro w hSw; (try dsimp only at hSw); go_simp; (try with_reducible rfl))
  try simp only [Act.put, List.setIfInBounds_toArray, List.set_cons_zero, List.set_cons_succ]
  refine' wpAnyH_take (i := 7) (oi := ?oi7) (v := ?v7) ?ha7 (by kernel_rfl) ?hf7 ?hr7 ?hQ7 (Or.inl ⟨?hw7, ?hy7⟩) (by assumption) ?rest7
  case ha7 => (simp only [List.getElem?_toArray, List.getElem?_cons_succ, List.getElem?_cons_zero]; exact rfl)
  case hQ7 => exact fun _ _ _ h => h
  case hf7 => kernel_rfl
  case hr7 => kernel_rfl
  case hw7 => rfl
  case hy7 => (intro w hSw; (try dsimp only at hSw); go_simp; (try with_reducible rfl))
  try simp only [Act.put, List.setIfInBounds_toArray, List.set_cons_zero, List.set_cons_succ]
  refine' wpAnyH_take (i := 8) (oi := ?oi8) (v := ?v8) ?ha8 (by kernel_rfl) ?hf8 ?hr8 ?hQ8 (Or.inl ⟨?hw8, ?hy8⟩) (by assumption) ?rest8
  case ha8 => (simp only [List.getElem?_toArray, List.getElem?_cons_succ, List.getElem?_cons_zero]; exact rfl)
  case hQ8 => exact fun _ _ _ h => h
  case hf8 => kernel_rfl
  case hr8 => kernel_rfl
  case hw8 => rfl
  case hy8 => (intro w hSw; (try dsimp only at hSw); go_simp; (try with_reducible rfl))
  try simp only [Act.put, List.setIfInBounds_toArray, List.set_cons_zero, List.set_cons_succ]
  refine' wpAnyH_take (i := 10) (oi := ?oi9) (v := ?v9) ?ha9 (by kernel_rfl) ?hf9 ?hr9 ?hQ9 (Or.inl ⟨?hw9, ?hy9⟩) (by assumption) ?rest9
  case ha9 => (simp only [List.getElem?_toArray, List.getElem?_cons_succ, List.getElem?_cons_zero]; exact rfl)
  case hQ9 => exact fun _ _ _ h => h
  case hf9 => kernel_rfl
  case hr9 => kernel_rfl
  case hw9 => rfl
  case hy9 => (intro w hSw; (try dsimp only at hSw); go_simp; (try with_reducible rfl))
  try simp only [Act.put, List.setIfInBounds_toArray, List.set_cons_zero, List.set_cons_succ]
  refine' wpAnyH_take (i := 11) (oi := ?oi10) (v := ?v10) ?ha10 (by kernel_rfl) ?hf10 ?hr10 ?hQ10 (Or.inl ⟨?hw10, ?hy10⟩) (by assumption) ?rest10
  case ha10 => (simp only [List.getElem?_toArray, List.getElem?_cons_succ, List.getElem?_cons_zero]; exact rfl)
  case hQ10 => exact fun _ _ _ h => h
  case hf10 => kernel_rfl
  case hr10 => kernel_rfl
  case hw10 => rfl
  case hy10 => (intro w hSw; (try dsimp only at hSw); go_simp; (try with_reducible rfl))
  try simp only [Act.put, List.setIfInBounds_toArray, List.set_cons_zero, List.set_cons_succ]
  refine' wpAnyH_take (i := 12) (oi := ?oi11) (v := ?v11) ?ha11 (by kernel_rfl) ?hf11 ?hr11 ?hQ11 (Or.inl ⟨?hw11, ?hy11⟩) (by assumption) ?rest11
  case ha11 => (simp only [List.getElem?_toArray, List.getElem?_cons_succ, List.getElem?_cons_zero]; exact rfl)
  case hQ11 => exact fun _ _ _ h => h
  case hf11 => kernel_rfl
  case hr11 => kernel_rfl
  case hw11 => rfl
  case hy11 => (intro w hSw; (try dsimp only at hSw); go_simp; (try with_reducible rfl))
  try simp only [Act.put, List.setIfInBounds_toArray, List.set_cons_zero, List.set_cons_succ]
  refine' wpAnyH_take (i := 13) (oi := ?oi12) (v := ?v12) ?ha12 (by kernel_rfl) ?hf12 ?hr12 ?hQ12 (Or.inl ⟨?hw12, ?hy12⟩) (by assumption) ?rest12
  case ha12 => (simp only [List.getElem?_toArray, List.getElem?_cons_succ, List.getElem?_cons_zero]; exact rfl)
  case hQ12 => exact fun _ _ _ h => h
  case hf12 => kernel_rfl
  case hr12 => kernel_rfl
  case hw12 => rfl
  case hy12 => (intro w hSw; (try dsimp only at hSw); go_simp; (try with_reducible rfl))
  try simp only [Act.put, List.setIfInBounds_toArray, List.set_cons_zero, List.set_cons_succ]
  refine' wpAnyH_take (i := 14) (oi := ?oi13) (v := ?v13) ?ha13 (by kernel_rfl) ?hf13 ?hr13 ?hQ13 (Or.inl ⟨?hw13, ?hy13⟩) (by assumption) ?rest13
  case ha13 => (simp only [List.getElem?_toArray, List.getElem?_cons_succ, List.getElem?_cons_zero]; exact rfl)
  case hQ13 => exact fun _ _ _ h => h
  case hf13 => kernel_rfl
  case hr13 => kernel_rfl
  case hw13 => rfl
  case hy13 => (intro w hSw; (try dsimp only at hSw); go_simp; (try with_reducible rfl))
  try simp only [Act.put, List.setIfInBounds_toArray, List.set_cons_zero, List.set_cons_succ]
  refine' wpAnyH_take (i := 15) (oi := ?oi14) (v := ?v14) ?ha14 (by kernel_rfl) ?hf14 ?hr14 ?hQ14 (Or.inl ⟨?hw14, ?hy14⟩) (by assumption) ?rest14
  case ha14 => (simp only [List.getElem?_toArray, List.getElem?_cons_succ, List.getElem?_cons_zero]; exact rfl)
  case hQ14 => exact fun _ _ _ h => h
  case hf14 => kernel_rfl
  case hr14 => kernel_rfl
  case hw14 => rfl
  case hy14 => (intro w hSw; (try dsimp only at hSw); go_simp; (try with_reducible rfl))
  try simp only [Act.put, List.setIfInBounds_toArray, List.set_cons_zero, List.set_cons_succ]
  refine' wpAnyH_take (i := 16) (oi := ?oi15) (v := ?v15) ?ha15 (by kernel_rfl) ?hf15 ?hr15 ?hQ15 (Or.inl ⟨?hw15, ?hy15⟩) (by assumption) ?rest15
  case ha15 => (simp only [List.getElem?_toArray, List.getElem?_cons_succ, List.getElem?_cons_zero]; exact rfl)
  case hQ15 => exact fun _ _ _ h => h
  case hf15 => kernel_rfl
  case hr15 => kernel_rfl
  case hw15 => rfl
  case hy15 => (intro w hSw; (try dsimp only at hSw); go_simp; (try with_reducible rfl))
  try simp only [Act.put, List.setIfInBounds_toArray, List.set_cons_zero, List.set_cons_succ]
  refine' wpAnyH_take (i := 17) (oi := ?oi16) (v := ?v16) ?ha16 (by kernel_rfl) ?hf16 ?hr16 ?hQ16 (Or.inl ⟨?hw16, ?hy16⟩) (by assumption) ?rest16
  case ha16 => (simp only [List.getElem?_toArray, List.getElem?_cons_succ, List.getElem?_cons_zero]; exact rfl)
  case hQ16 => exact fun _ _ _ h => h
  case hf16 => kernel_rfl
  case hr16 => kernel_rfl
  case hw16 => rfl
  case hy16 => (intro w hSw; (try dsimp only at hSw); go_simp; (try with_reducible rfl))
  try simp only [Act.put, List.setIfInBounds_toArray, List.set_cons_zero, List.set_cons_succ]
  refine' wpAnyH_take (i := 18) (oi := ?oi17) (v := undef) ?ha17 (by kernel_rfl) ?hf17 ?hr17 ?hQ17 (Or.inr ⟨?hw17, rfl⟩) (by assumption) ?rest17
  case ha17 => (simp only [List.getElem?_toArray, List.getElem?_cons_succ, List.getElem?_cons_zero]; exact rfl)
  case hQ17 => exact fun _ _ _ h => h
  case hf17 => kernel_rfl
  case hr17 => kernel_rfl
  case hw17 => rfl
  try simp only [Act.put, List.setIfInBounds_toArray, List.set_cons_zero, List.set_cons_succ]
  refine' wpAnyH_take (i := 19) (oi := ?oi18) (v := undef) ?ha18 (by kernel_rfl) ?hf18 ?hr18 ?hQ18 (Or.inr ⟨?hw18, rfl⟩) (by assumption) ?rest18
  case ha18 => (simp only [List.getElem?_toArray, List.getElem?_cons_succ, List.getElem?_cons_zero]; exact rfl)
  case hQ18 => exact fun _ _ _ h => h
  case hf18 => kernel_rfl
  case hr18 => kernel_rfl
  case hw18 => rfl
  try simp only [Act.put, List.setIfInBounds_toArray, List.set_cons_zero, List.set_cons_succ]
  refine' wpAnyH_take (i := 20) (oi := ?oi19) (v := undef) ?ha19 (by kernel_rfl) ?hf19 ?hr19 ?hQ19 (Or.inr ⟨?hw19, rfl⟩) (by assumption) ?rest19
  case ha19 => (simp only [List.getElem?_toArray, List.getElem?_cons_succ, List.getElem?_cons_zero]; exact rfl)
  case hQ19 => exact fun _ _ _ h => h
  case hf19 => kernel_rfl
  case hr19 => kernel_rfl
  case hw19 => rfl
  try simp only [Act.put, List.setIfInBounds_toArray, List.set_cons_zero, List.set_cons_succ]
  refine' wpAnyH_take (i := 21) (oi := ?oi20) (v := undef) ?ha20 (by kernel_rfl) ?hf20 ?hr20 ?hQ20 (Or.inr ⟨?hw20, rfl⟩) (by assumption) ?rest20
  case ha20 => (simp only [List.getElem?_toArray, List.getElem?_cons_succ, List.getElem?_cons_zero]; exact rfl)
  case hQ20 => exact fun _ _ _ h => h
  case hf20 => kernel_rfl
  case hr20 => kernel_rfl
  case hw20 => rfl
  try simp only [Act.put, List.setIfInBounds_toArray, List.set_cons_zero, List.set_cons_succ]
  refine' wpAnyH_take (i := 22) (oi := ?oi21) (v := undef) ?ha21 (by kernel_rfl) ?hf21 ?hr21 ?hQ21 (Or.inr ⟨?hw21, rfl⟩) (by assumption) ?rest21
  case ha21 => (simp only [List.getElem?_toArray, List.getElem?_cons_succ, List.getElem?_cons_zero]; exact rfl)
  case hQ21 => exact fun _ _ _ h => h
  case hf21 => kernel_rfl
  case hr21 => kernel_rfl
  case hw21 => rfl
  try simp only [Act.put, List.setIfInBounds_toArray, List.set_cons_zero, List.set_cons_succ]
  refine' wpAnyH_take (i := 23) (oi := ?oi22) (v := undef) ?ha22 (by kernel_rfl) ?hf22 ?hr22 ?hQ22 (Or.inr ⟨?hw22, rfl⟩) (by assumption) ?rest22
  case ha22 => (simp only [List.getElem?_toArray, List.getElem?_cons_succ, List.getElem?_cons_zero]; exact rfl)
  case hQ22 => exact fun _ _ _ h => h
  case hf22 => kernel_rfl
  case hr22 => kernel_rfl
  case hw22 => rfl
  try simp only [Act.put, List.setIfInBounds_toArray, List.set_cons_zero, List.set_cons_succ]
  refine' wpAnyH_take (i := 24) (oi := ?oi23) (v := undef) ?ha23 (by kernel_rfl) ?hf23 ?hr23 ?hQ23 (Or.inr ⟨?hw23, rfl⟩) (by assumption) ?rest23
  case ha23 => (simp only [List.getElem?_toArray, List.getElem?_cons_succ, List.getElem?_cons_zero]; exact rfl)
  case hQ23 => exact fun _ _ _ h => h
  case hf23 => kernel_rfl
  case hr23 => kernel_rfl
  case hw23 => rfl
  try simp only [Act.put, List.setIfInBounds_toArray, List.set_cons_zero, List.set_cons_succ]
  refine' wpAnyH_take (i := 25) (oi := ?oi24) (v := undef) ?ha24 (by kernel_rfl) ?hf24 ?hr24 ?hQ24 (Or.inr ⟨?hw24, rfl⟩) (by assumption) ?rest24
  case ha24 => (simp only [List.getElem?_toArray, List.getElem?_cons_succ, List.getElem?_cons_zero]; exact rfl)
  case hQ24 => exact fun _ _ _ h => h
  case hf24 => kernel_rfl
  case hr24 => kernel_rfl
  case hw24 => rfl
  try simp only [Act.put, List.setIfInBounds_toArray, List.set_cons_zero, List.set_cons_succ]
  refine' wpAnyH_take (i := 26) (oi := ?oi25) (v := undef) ?ha25 (by kernel_rfl) ?hf25 ?hr25 ?hQ25 (Or.inr ⟨?hw25, rfl⟩) (by assumption) ?rest25
  case ha25 => (simp only [List.getElem?_toArray, List.getElem?_cons_succ, List.getElem?_cons_zero]; exact rfl)
  case hQ25 => exact fun _ _ _ h => h
  case hf25 => kernel_rfl
  case hr25 => kernel_rfl
  case hw25 => rfl
  try simp only [Act.put, List.setIfInBounds_toArray, List.set_cons_zero, List.set_cons_succ]
  refine' wpAnyH_take (i := 27) (oi := ?oi26) (v := ?v26) ?ha26 (by kernel_rfl) ?hf26 ?hr26 ?hQ26 (Or.inl ⟨?hw26, ?hy26⟩) (by assumption) ?rest26
  case ha26 => (simp only [List.getElem?_toArray, List.getElem?_cons_succ, List.getElem?_cons_zero]; exact rfl)
  case hQ26 => exact fun _ _ _ h => h
  case hf26 => kernel_rfl
  case hr26 => kernel_rfl
  case hw26 => rfl
  case hy26 => (intro w hSw; (try dsimp only at hSw); go_simp; (try with_reducible rfl))
  try simp only [Act.put, List.setIfInBounds_toArray, List.set_cons_zero, List.set_cons_succ]
  refine' wpAnyH_take (i := 28) (oi := ?oi27) (v := ?v27) ?ha27 (by kernel_rfl) ?hf27 ?hr27 ?hQ27 (Or.inl ⟨?hw27, ?hy27⟩) (by assumption) ?rest27
  case ha27 => (simp only [List.getElem?_toArray, List.getElem?_cons_succ, List.getElem?_cons_zero]; exact rfl)
  case hQ27 => exact fun _ _ _ h => h
  case hf27 => kernel_rfl
  case hr27 => kernel_rfl
  case hw27 => rfl
  case hy27 => (intro w hSw; (try dsimp only at hSw); go_simp; (try with_reducible rfl))
  try simp only [Act.put, List.setIfInBounds_toArray, List.set_cons_zero, List.set_cons_succ]
  refine' wpAnyH_take (i := 29) (oi := ?oi28) (v := undef) ?ha28 (by kernel_rfl) ?hf28 ?hr28 ?hQ28 (Or.inr ⟨?hw28, rfl⟩) (by assumption) ?rest28
  case ha28 => (simp only [List.getElem?_toArray, List.getElem?_cons_succ, List.getElem?_cons_zero]; exact rfl)
  case hQ28 => exact fun _ _ _ h => h
  case hf28 => kernel_rfl
  case hr28 => kernel_rfl
  case hw28 => rfl
  try simp only [Act.put, List.setIfInBounds_toArray, List.set_cons_zero, List.set_cons_succ]
  refine' wpAnyH_take (i := 30) (oi := ?oi29) (v := undef) ?ha29 (by kernel_rfl) ?hf29 ?hr29 ?hQ29 (Or.inr ⟨?hw29, rfl⟩) (by assumption) ?rest29
  case ha29 => (simp only [List.getElem?_toArray, List.getElem?_cons_succ, List.getElem?_cons_zero]; exact rfl)
  case hQ29 => exact fun _ _ _ h => h
  case hf29 => kernel_rfl
  case hr29 => kernel_rfl
  case hw29 => rfl
  try simp only [Act.put, List.setIfInBounds_toArray, List.set_cons_zero, List.set_cons_succ]
  refine' wpAnyH_take (i := 31) (oi := ?oi30) (v := undef) ?ha30 (by kernel_rfl) ?hf30 ?hr30 ?hQ30 (Or.inr ⟨?hw30, rfl⟩) (by assumption) ?rest30
  case ha30 => (simp only [List.getElem?_toArray, List.getElem?_cons_succ, List.getElem?_cons_zero]; exact rfl)
  case hQ30 => exact fun _ _ _ h => h
  case hf30 => kernel_rfl
  case hr30 => kernel_rfl
  case hw30 => rfl
  try simp only [Act.put, List.setIfInBounds_toArray, List.set_cons_zero, List.set_cons_succ]
  refine' wpAnyH_take (i := 32) (oi := ?oi31) (v := undef) ?ha31 (by kernel_rfl) ?hf31 ?hr31 ?hQ31 (Or.inr ⟨?hw31, rfl⟩) (by assumption) ?rest31
  case ha31 => (simp only [List.getElem?_toArray, List.getElem?_cons_succ, List.getElem?_cons_zero]; exact rfl)
  case hQ31 => exact fun _ _ _ h => h
  case hf31 => kernel_rfl
  case hr31 => kernel_rfl
  case hw31 => rfl
  try simp only [Act.put, List.setIfInBounds_toArray, List.set_cons_zero, List.set_cons_succ]
  refine' wpAnyH_take (i := 33) (oi := ?oi32) (v := undef) ?ha32 (by kernel_rfl) ?hf32 ?hr32 ?hQ32 (Or.inr ⟨?hw32, rfl⟩) (by assumption) ?rest32
  case ha32 => (simp only [List.getElem?_toArray, List.getElem?_cons_succ, List.getElem?_cons_zero]; exact rfl)
  case hQ32 => exact fun _ _ _ h => h
  case hf32 => kernel_rfl
  case hr32 => kernel_rfl
  case hw32 => rfl
  try simp only [Act.put, List.setIfInBounds_toArray, List.set_cons_zero, List.set_cons_succ]
  refine' wpAnyH_take (i := 34) (oi := ?oi33) (v := undef) ?ha33 (by kernel_rfl) ?hf33 ?hr33 ?hQ33 (Or.inr ⟨?hw33, rfl⟩) (by assumption) ?rest33
  case ha33 => (simp only [List.getElem?_toArray, List.getElem?_cons_succ, List.getElem?_cons_zero]; exact rfl)
  case hQ33 => exact fun _ _ _ h => h
  case hf33 => kernel_rfl
  case hr33 => kernel_rfl
  case hw33 => rfl
  try simp only [Act.put, List.setIfInBounds_toArray, List.set_cons_zero, List.set_cons_succ]
  refine' wpAnyH_take (i := 35) (oi := ?oi34) (v := ?v34) ?ha34 (by kernel_rfl) ?hf34 ?hr34 ?hQ34 (Or.inl ⟨?hw34, ?hy34⟩) (by assumption) ?rest34
  case ha34 => (simp only [List.getElem?_toArray, List.getElem?_cons_succ, List.getElem?_cons_zero]; exact rfl)
  case hQ34 => exact fun _ _ _ h => h
  case hf34 => kernel_rfl
  case hr34 => kernel_rfl
  case hw34 => rfl
  case hy34 => (intro w hSw; (try dsimp only at hSw); go_simp; (try with_reducible rfl))
  try simp only [Act.put, List.setIfInBounds_toArray, List.set_cons_zero, List.set_cons_succ]
  refine wpAnyH_ready (rs := [9]) (by kernel_rfl) (by simp) ?_
  refine' AllReadyH.cons (o := ?oi35) ?ha35 (fun K hK => ?step35) AllReadyH.nil
  case ha35 => (simp only [List.getElem?_toArray, List.getElem?_cons_succ, List.getElem?_cons_zero]; exact rfl)
  go_simp
  refine hK.out _ _ (⟨y0 _, y1 _, y2 _⟩) (fun hHeld => ?_)
  clear hK K
  try simp only [Act.put, List.setIfInBounds_toArray, List.set_cons_zero, List.set_cons_succ]
  refine' wpAnyH_take (i := 36) (oi := ?oi36) (v := ?v36) ?ha36 (by kernel_rfl) ?hf36 ?hr36 ?hQ36 (Or.inl ⟨?hw36, ?hy36⟩) (by assumption) ?rest36
  case ha36 => (simp only [List.getElem?_toArray, List.getElem?_cons_succ, List.getElem?_cons_zero]; exact rfl)
  case hQ36 => exact fun _ _ _ h => h
  case hf36 => kernel_rfl
  case hr36 => kernel_rfl
  case hw36 => rfl
  case hy36 => (intro w hSw; (try dsimp only at hSw); go_simp; (try with_reducible rfl))
  try simp only [Act.put, List.setIfInBounds_toArray, List.set_cons_zero, List.set_cons_succ]
  refine' wpAnyH_take (i := 37) (oi := ?oi37) (v := ?v37) ?ha37 (by kernel_rfl) ?hf37 ?hr37 ?hQ37 (Or.inl ⟨?hw37, ?hy37⟩) (by assumption) ?rest37
  case ha37 => (simp only [List.getElem?_toArray, List.getElem?_cons_succ, List.getElem?_cons_zero]; exact rfl)
  case hQ37 => exact fun _ _ _ h => h
  case hf37 => kernel_rfl
  case hr37 => kernel_rfl
  case hw37 => rfl
  case hy37 => (intro w hSw; (try dsimp only at hSw); go_simp; (try with_reducible rfl))
  try simp only [Act.put, List.setIfInBounds_toArray, List.set_cons_zero, List.set_cons_succ]
  refine wpAnyH_done (by kernel_rfl) ?_ _
  all_goals clear x0 y0 r00 x1 y1 r10 x2 y2 r20
  all_goals
    go_wp2_with fail
    go_ret2
    exact ⟨_, rfl, ownI_nil _ _, HXB.out⟩

end Go.Proofs.Ytmcecmnbdcbehaa


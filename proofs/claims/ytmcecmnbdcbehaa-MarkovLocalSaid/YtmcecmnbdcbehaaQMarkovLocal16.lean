/- Moves between closed braids: the ways of markov.local, walked (part of Markov3). -/
import Derived.Test.YtmcecmnbdcbehaaQMarkovLocal0
import Derived.Test.YtmcecmnbdcbehaaQMarkovLocal1
import Derived.Test.YtmcecmnbdcbehaaQMarkovLocal2
import Derived.Test.YtmcecmnbdcbehaaQMarkovLocal3
import Derived.Test.YtmcecmnbdcbehaaQMarkovLocal4
import Derived.Test.YtmcecmnbdcbehaaQMarkovLocal5
import Derived.Test.YtmcecmnbdcbehaaQMarkovLocal6
import Derived.Test.YtmcecmnbdcbehaaQMarkovLocal9
import Derived.Test.YtmcecmnbdcbehaaQMarkovLocal10
import Derived.Test.YtmcecmnbdcbehaaQMarkovLocal11
import Derived.Test.YtmcecmnbdcbehaaQMarkovLocal13
import Derived.Test.YtmcecmnbdcbehaaQMarkovLocal14
import Derived.Test.YtmcecmnbdcbehaaQMarkovLocal15
import Derived.RangeFuncNested
import Derived.RangeFuncBound
import Derived.RangeFuncCalls
import Derived.RangeFuncLeaves
import Derived.RangeFuncBox
import Derived.Shelf.Abstract
import Derived.Shelf.RegionOpen
import Derived.OwnWalkIn
import Derived.TacticsInMore
import Derived.LoopNIn
import Derived.LoopIn
import Derived.Maps.AppendAt
namespace Go.Proofs.Ytmcecmnbdcbehaa
open Go.RowKit Go.Sl Go.Maps

set_option maxHeartbeats 2000000 in
set_option maxRecDepth 100000 in
theorem local3_none (n : Int) (v : Value) (xs : List Int) (j : Nat) (l : Int) (w : World) (hv : Ints w v xs) (hn : 1 ≤ n) (hn6 : n ≤ 6) (hl : xs.length ≤ 1000) (hx : ∀ x ∈ xs, -1000 ≤ x ∧ x ≤ 1000) (hl1 : -1000 ≤ l) (hl2 : l ≤ 1000) (hj : j ≤ 1000) (hjl : ¬ j + 2 ≤ xs.length) :
    Calls Try.prog 149 #[.int .i64 n, v, .agg #[.int .i64 3, .int .i64 j, .int .i64 l]] w fun e w' => ∃ u, e = .returned (.tuple #[u, .int .i64 1]) ∧ OwnI w' w.heap.size u ([]) ∧ Below w.heap.size w w' := by
  have hmm := @run_makeMap Try.prog
  have hs1 : (w.alloc (.cells #[.int .i64 3, .int .i64 j, .int .i64 l] 57)).heap.size = w.heap.size + 1 := by simp
  obtain ⟨u1, u2, u3, u4, r1, r2, r3, r4, b4, hlook⟩ := mmap (w.alloc (.cells #[.int .i64 3, .int .i64 j, .int .i64 l] 57))
  have r5 : (Instr.lookup 181 (.map (some (w.heap.size + 1))) (.int .i64 3) false).run Try.prog u4 = .ok (.int .i64 2) u4 := by have := hlook 3 (by decide) (by decide); rw [hs1] at this; exact this
  rw [hs1] at r1 r2 r3 r4
  have hb1 : Below w.heap.size w (w.alloc (.cells #[.int .i64 3, .int .i64 j, .int .i64 l] 57)) := (Below.refl _ _).alloc (Nat.le_refl _) _
  have hb4 : Below w.heap.size w u4 := Below.chain hb1 b4
  have c0 : u4.cell? ⟨w.heap.size, 0, none⟩ = some (.int .i64 3) := by rw [b4.cell (by rw [hs1]; exact Nat.lt_succ_self _)]; simp [go_sem]
  have c1 : u4.cell? ⟨w.heap.size, 1, none⟩ = some (.int .i64 j) := by rw [b4.cell (by rw [hs1]; exact Nat.lt_succ_self _)]; simp [go_sem]
  have c2 : u4.cell? ⟨w.heap.size, 2, none⟩ = some (.int .i64 l) := by rw [b4.cell (by rw [hs1]; exact Nat.lt_succ_self _)]; simp [go_sem]
  have sv := hv.isSl
  have lv := hv.len
  have hcap := hv.cap
  have hv4 := hv.below hb4
  have HV := Lib.hid hv4
  have HX := Lib.hid hx
  have HB := Lib.hid hb4
  have hbs : w.heap.size + 1 ≤ u4.heap.size := by rw [← hs1]; exact b4.size
  have ne4 : w.heap.size < u4.heap.size := by omega
  clear hv hx hb1 hb4 b4 hlook hs1 hv4
  go_enter Try.func149, Try.ntmps149
  go_wp2_with fail
  refine (part_none v xs j 2 _ HV.out hl (by decide) hj hjl).mono ?_
  rintro e w' ⟨rfl, rfl⟩
  go_wp2_with fail
  go_ret2
  exact ⟨_, rfl, ownI_nil _ _, HB.out⟩

set_option maxHeartbeats 2000000 in
set_option maxRecDepth 100000 in
theorem local3_some1 (n : Int) (v : Value) (xs : List Int) (j : Nat) (l : Int) (w : World) (hv : Ints w v xs) (hn : 1 ≤ n) (hn6 : n ≤ 6) (hl : xs.length ≤ 1000) (hx : ∀ x ∈ xs, -1000 ≤ x ∧ x ≤ 1000) (hl1 : -1000 ≤ l) (hl2 : l ≤ 1000) (hj : j ≤ 1000) (hjl : j + 2 ≤ xs.length) (p0 : Int) (hp0 : nth xs (j + 0) = p0) (hp01 : -1000 ≤ p0) (hp02 : p0 ≤ 1000) (p1 : Int) (hp1 : nth xs (j + 1) = p1) (hp11 : -1000 ≤ p1) (hp12 : p1 ≤ 1000) (h : (p0.natAbs : Int) - p1.natAbs ≥ 2) :
    Calls Try.prog 149 #[.int .i64 n, v, .agg #[.int .i64 3, .int .i64 j, .int .i64 l]] w fun e w' => ∃ u, e = .returned (.tuple #[u, .int .i64 0]) ∧ OwnI w' w.heap.size u (xs.take j ++ [p1, p0] ++ xs.drop (j + 2)) ∧ Below w.heap.size w w' := by
  have hmm := @run_makeMap Try.prog
  have hs1 : (w.alloc (.cells #[.int .i64 3, .int .i64 j, .int .i64 l] 57)).heap.size = w.heap.size + 1 := by simp
  obtain ⟨u1, u2, u3, u4, r1, r2, r3, r4, b4, hlook⟩ := mmap (w.alloc (.cells #[.int .i64 3, .int .i64 j, .int .i64 l] 57))
  have r5 : (Instr.lookup 181 (.map (some (w.heap.size + 1))) (.int .i64 3) false).run Try.prog u4 = .ok (.int .i64 2) u4 := by have := hlook 3 (by decide) (by decide); rw [hs1] at this; exact this
  rw [hs1] at r1 r2 r3 r4
  have hb1 : Below w.heap.size w (w.alloc (.cells #[.int .i64 3, .int .i64 j, .int .i64 l] 57)) := (Below.refl _ _).alloc (Nat.le_refl _) _
  have hb4 : Below w.heap.size w u4 := Below.chain hb1 b4
  have c0 : u4.cell? ⟨w.heap.size, 0, none⟩ = some (.int .i64 3) := by rw [b4.cell (by rw [hs1]; exact Nat.lt_succ_self _)]; simp [go_sem]
  have c1 : u4.cell? ⟨w.heap.size, 1, none⟩ = some (.int .i64 j) := by rw [b4.cell (by rw [hs1]; exact Nat.lt_succ_self _)]; simp [go_sem]
  have c2 : u4.cell? ⟨w.heap.size, 2, none⟩ = some (.int .i64 l) := by rw [b4.cell (by rw [hs1]; exact Nat.lt_succ_self _)]; simp [go_sem]
  have sv := hv.isSl
  have lv := hv.len
  have hcap := hv.cap
  have hv4 := hv.below hb4
  have HV := Lib.hid hv4
  have HX := Lib.hid hx
  have HB := Lib.hid hb4
  have hbs : w.heap.size + 1 ≤ u4.heap.size := by rw [← hs1]; exact b4.size
  have ne4 : w.heap.size < u4.heap.size := by omega
  have hlc : Below u4.heap.size u4 (u4.alloc (.cells #[.int .i64 l, .int .i64 (-l)] 3)) := (Below.refl _ _).alloc (Nat.le_refl _) _
  have d0 : (u4.alloc (.cells #[.int .i64 l, .int .i64 (-l)] 3)).cell? ⟨w.heap.size, 0, none⟩ = some (.int .i64 3) := (hlc.cell ne4).trans c0
  have d1 : (u4.alloc (.cells #[.int .i64 l, .int .i64 (-l)] 3)).cell? ⟨w.heap.size, 1, none⟩ = some (.int .i64 j) := (hlc.cell ne4).trans c1
  have hc1 := hv4.cut (l := 0) (r := j) (m := vcap v) (Nat.zero_le _) (by omega) (by omega) (by omega)
  have hc2 := hv4.cut (l := j + 2) (r := xs.length) (m := vcap v) (by omega) (Nat.le_refl _) (by omega) (by omega)
  have sc1 := hc1.isSl
  have sc2 := hc2.isSl
  have HC1 := Lib.hid (hc1.below hlc)
  have HC2 := Lib.hid (hc2.below hlc)
  have HLC := Lib.hid (Below.chain hb4 hlc)
  have e0 : (u4.alloc (.cells #[.int .i64 l, .int .i64 (-l)] 3)).drew.cell? ⟨w.heap.size, 0, none⟩ = some (.int .i64 3) := d0
  have e1 : (u4.alloc (.cells #[.int .i64 l, .int .i64 (-l)] 3)).drew.cell? ⟨w.heap.size, 1, none⟩ = some (.int .i64 j) := d1
  have hlit : Ints (u4.alloc (.cells #[.int .i64 l, .int .i64 (-l)] 3)) (.slice (some ⟨u4.heap.size, 0, none⟩) 2 2) [l, -l] := ints_lit [l, -l] rfl rfl rfl (by simp)
  have HL := Lib.hid hlit
  clear hv hx hb1 hb4 b4 hlook hs1 hv4 hc1 hc2 hlc hlit
  have hcut := HV.out.cut (l := j) (r := j + 2) (m := vcap v) (by omega) hjl (by omega) (by omega)
  have hcl : ((xs.drop j).take (j + 2 - j)).length = 2 := by simp; omega
  have hnt : ∀ i, i < 2 → nth ((xs.drop j).take (j + 2 - j)) i = nth xs (j + i) := by
    intro i hi
    rw [nth_lt (by rw [hcl]; exact hi), nth_lt (show j + i < xs.length by omega)]
    simp
  have scut := hcut.isSl
  have lcut := hcut.len
  rw [hcl] at lcut
  obtain ⟨L, hL⟩ : ∃ L, vcut v j (j + 2) (vcap v) 1 = L := ⟨_, rfl⟩
  rw [hL] at hcut scut lcut
  have g0 : u4.cell? (vat L 0) = some (.int .i64 p0) := by rw [hcut.cell (by rw [hcl]; decide), hnt 0 (by decide), hp0]
  have k0 := (hcut.below (Below.refl _ _ |>.alloc (Nat.le_refl _) (.cells #[.int .i64 l, .int .i64 (-l)] 3))).cell (k := 0) (by rw [hcl]; decide)
  rw [hnt 0 (by decide), hp0] at k0
  have g1 : u4.cell? (vat L 1) = some (.int .i64 p1) := by rw [hcut.cell (by rw [hcl]; decide), hnt 1 (by decide), hp1]
  have k1 := (hcut.below (Below.refl _ _ |>.alloc (Nat.le_refl _) (.cells #[.int .i64 l, .int .i64 (-l)] 3))).cell (k := 1) (by rw [hcl]; decide)
  rw [hnt 1 (by decide), hp1] at k1
  clear hcut hcl hnt
  obtain ⟨A, hA⟩ : ∃ A : Int, (p0.natAbs : Int) = A := ⟨_, rfl⟩
  obtain ⟨B, hB⟩ : ∃ B : Int, (p1.natAbs : Int) = B := ⟨_, rfl⟩
  rw [hA, hB] at h
  have hA1 : 0 ≤ A := by omega
  have hA2 : A ≤ 1000 := by omega
  have hB1 : 0 ≤ B := by omega
  have hB2 : B ≤ 1000 := by omega
  have IA : ∀ w, Calls Try.prog 97 #[.int .i64 p0] w fun e w' => e = .returned (.int .i64 A) ∧ w = w' := fun w => by rw [← hA]; exact bindex_calls p0 w hp01 hp02
  have IB : ∀ w, Calls Try.prog 97 #[.int .i64 p1] w fun e w' => e = .returned (.int .i64 B) ∧ w = w' := fun w => by rw [← hB]; exact bindex_calls p1 w hp11 hp12
  have HIA := Lib.hid IA; have HIB := Lib.hid IB; have HHA := Lib.hid hA; have HHB := Lib.hid hB
  clear IA IB hA hB
  have d0 : decide (A - B ≥ 2) = true := decide_eq_true h
  have d0' : decide (2 ≤ A - B) = true := d0
  go_enter Try.func149, Try.ntmps149
  go_wp2_with fail
  refine (part_some v xs j 2 _ HV.out hl (by decide) hj hjl).mono ?_
  rintro e w' ⟨rfl, rfl⟩
  rw [hL]
  go_wp2_with fail
  go_quiet ((first | (go_at_call 97; exact Calls.quiet_of_same ((HIA.out _).mono fun _ _ ⟨a, b⟩ => ⟨a, b.symm⟩)) | (go_at_call 97; exact Calls.quiet_of_same ((HIB.out _).mono fun _ _ ⟨a, b⟩ => ⟨a, b.symm⟩))))
  go_wp2_with fail
  obtain ⟨X, hX⟩ : ∃ X, X = (u4.alloc (.cells #[.int .i64 l, .int .i64 (-l)] 3)).drewN nq := ⟨_, rfl⟩
  rw [← hX]
  have xb : Below u4.heap.size u4 X := by rw [hX]; exact Below.chain ((Below.refl _ _).alloc (Nat.le_refl _) _) (Below.drawn _)
  have xs1 := HC1.out.below (Below.drawn nq)
  have xs2 := HC2.out.below (Below.drawn nq)
  rw [← hX] at xs1 xs2
  have r00 : X.cell? (vat L 0) = some (.int .i64 p0) := by rw [hX]; exact k0
  have x0 : X.drew.cell? (vat L 0) = some (.int .i64 p0) := r00
  have y0 : ∀ o, (X.alloc o).drew.cell? (vat L 0) = some (.int .i64 p0) := fun o => (Below.cell ((Below.refl X.heap.size X).alloc (Nat.le_refl _) o) (World.block_lt_of_cell? X _ r00)).trans r00
  have r10 : X.cell? (vat L 1) = some (.int .i64 p1) := by rw [hX]; exact k1
  have x1 : X.drew.cell? (vat L 1) = some (.int .i64 p1) := r10
  have y1 : ∀ o, (X.alloc o).drew.cell? (vat L 1) = some (.int .i64 p1) := fun o => (Below.cell ((Below.refl X.heap.size X).alloc (Nat.le_refl _) o) (World.block_lt_of_cell? X _ r10)).trans r10
  have wb : Below X.heap.size X (X.alloc (.cells #[.int .i64 p1, .int .i64 p0] 3)).drew := ((Below.refl _ _).alloc (Nat.le_refl _) _).drew
  have w0 := (wb.cell (by have := xb.size; exact Nat.lt_of_lt_of_le ne4 this)).trans ((xb.cell ne4).trans c0)
  have w1 := (wb.cell (by have := xb.size; exact Nat.lt_of_lt_of_le ne4 this)).trans ((xb.cell ne4).trans c1)
  have HX1 := Lib.hid (xs1.below wb)
  have HX2 := Lib.hid (xs2.below wb)
  have HXL := Lib.hid ((ints_lit (w := X) [p1, p0] rfl rfl rfl (by simp)).below (Below.refl _ _).drew)
  have HXB := Lib.hid (Below.chain HB.out (Below.chain xb wb))
  have HXX := Lib.hid hX
  clear hX xb wb xs1 xs2
  refine wp_region_held_drew (S := (fun w' => w'.cell? (vat L 0) = some (.int .i64 p0) ∧ w'.cell? (vat L 1) = some (.int .i64 p1))) (by kernel_rfl) (⟨x0, x1⟩) (fun hHeld => ?_)
  refine' wpAnyH_take (i := 0) (oi := ?oi0) (v := ?v0) ?ha0 (by kernel_rfl) ?hf0 ?hr0 ?hQ0 (Or.inl ⟨?hw0, ?hy0⟩) (by assumption) ?rest0
  case ha0 => (simp only [List.getElem?_toArray, List.getElem?_cons_succ, List.getElem?_cons_zero]; exact rfl)
  case hQ0 => exact fun _ _ _ h => h
  case hf0 => kernel_rfl
  case hr0 => kernel_rfl
  case hw0 => rfl
  case hy0 => (intro w hSw; (try dsimp only at hSw); go_simp; (try with_reducible rfl))
  try simp only [Act.put, List.setIfInBounds_toArray, List.set_cons_zero, List.set_cons_succ]
  refine' wpAnyH_take (i := 1) (oi := ?oi1) (v := ?v1) ?ha1 (by kernel_rfl) ?hf1 ?hr1 ?hQ1 (Or.inl ⟨?hw1, ?hy1⟩) (by assumption) ?rest1
  case ha1 => (simp only [List.getElem?_toArray, List.getElem?_cons_succ, List.getElem?_cons_zero]; exact rfl)
  case hQ1 => exact fun _ _ _ h => h
  case hf1 => kernel_rfl
  case hr1 => kernel_rfl
  case hw1 => rfl
  case hy1 => (intro w hSw; (try dsimp only at hSw); go_simp; (try with_reducible rfl))
  try simp only [Act.put, List.setIfInBounds_toArray, List.set_cons_zero, List.set_cons_succ]
  refine' wpAnyH_take (i := 2) (oi := ?oi2) (v := ?v2) ?ha2 (by kernel_rfl) ?hf2 ?hr2 ?hQ2 (Or.inl ⟨?hw2, ?hy2⟩) (by assumption) ?rest2
  case ha2 => (simp only [List.getElem?_toArray, List.getElem?_cons_succ, List.getElem?_cons_zero]; exact rfl)
  case hQ2 => exact fun _ _ _ h => h
  case hf2 => kernel_rfl
  case hr2 => kernel_rfl
  case hw2 => rfl
  case hy2 => (intro w hSw; (try dsimp only at hSw); go_simp; (try with_reducible rfl))
  try simp only [Act.put, List.setIfInBounds_toArray, List.set_cons_zero, List.set_cons_succ]
  refine' wpAnyH_take (i := 3) (oi := ?oi3) (v := ?v3) ?ha3 (by kernel_rfl) ?hf3 ?hr3 ?hQ3 (Or.inl ⟨?hw3, ?hy3⟩) (by assumption) ?rest3
  case ha3 => (simp only [List.getElem?_toArray, List.getElem?_cons_succ, List.getElem?_cons_zero]; exact rfl)
  case hQ3 => exact fun _ _ _ h => h
  case hf3 => kernel_rfl
  case hr3 => kernel_rfl
  case hw3 => rfl
  case hy3 => (intro w hSw; (try dsimp only at hSw); go_simp; (try with_reducible rfl))
  try simp only [Act.put, List.setIfInBounds_toArray, List.set_cons_zero, List.set_cons_succ]
  refine' wpAnyH_take (i := 4) (oi := ?oi4) (v := ?v4) ?ha4 (by kernel_rfl) ?hf4 ?hr4 ?hQ4 (Or.inl ⟨?hw4, ?hy4⟩) (by assumption) ?rest4
  case ha4 => (simp only [List.getElem?_toArray, List.getElem?_cons_succ, List.getElem?_cons_zero]; exact rfl)
  case hQ4 => exact fun _ _ _ h => h
  case hf4 => kernel_rfl
  case hr4 => kernel_rfl
  case hw4 => rfl
  case hy4 => (intro w hSw; (try dsimp only at hSw); go_simp; (try with_reducible rfl))
  try simp only [Act.put, List.setIfInBounds_toArray, List.set_cons_zero, List.set_cons_succ]
  refine' wpAnyH_take (i := 5) (oi := ?oi5) (v := ?v5) ?ha5 (by kernel_rfl) ?hf5 ?hr5 ?hQ5 (Or.inl ⟨?hw5, ?hy5⟩) (by assumption) ?rest5
  case ha5 => (simp only [List.getElem?_toArray, List.getElem?_cons_succ, List.getElem?_cons_zero]; exact rfl)
  case hQ5 => exact fun _ _ _ h => h
  case hf5 => kernel_rfl
  case hr5 => kernel_rfl
  case hw5 => rfl
  case hy5 => (intro w hSw; (try dsimp only at hSw); go_simp; (try with_reducible rfl))
  try simp only [Act.put, List.setIfInBounds_toArray, List.set_cons_zero, List.set_cons_succ]
  refine' wpAnyH_take (i := 7) (oi := ?oi6) (v := ?v6) ?ha6 (by kernel_rfl) ?hf6 ?hr6 ?hQ6 (Or.inl ⟨?hw6, ?hy6⟩) (by assumption) ?rest6
  case ha6 => (simp only [List.getElem?_toArray, List.getElem?_cons_succ, List.getElem?_cons_zero]; exact rfl)
  case hQ6 => exact fun _ _ _ h => h
  case hf6 => kernel_rfl
  case hr6 => kernel_rfl
  case hw6 => rfl
  case hy6 => (intro w hSw; (try dsimp only at hSw); go_simp; (try with_reducible rfl))
  try simp only [Act.put, List.setIfInBounds_toArray, List.set_cons_zero, List.set_cons_succ]
  refine' wpAnyH_take (i := 8) (oi := ?oi7) (v := ?v7) ?ha7 (by kernel_rfl) ?hf7 ?hr7 ?hQ7 (Or.inl ⟨?hw7, ?hy7⟩) (by assumption) ?rest7
  case ha7 => (simp only [List.getElem?_toArray, List.getElem?_cons_succ, List.getElem?_cons_zero]; exact rfl)
  case hQ7 => exact fun _ _ _ h => h
  case hf7 => kernel_rfl
  case hr7 => kernel_rfl
  case hw7 => rfl
  case hy7 => (intro w hSw; (try dsimp only at hSw); go_simp; (try with_reducible rfl))
  try simp only [Act.put, List.setIfInBounds_toArray, List.set_cons_zero, List.set_cons_succ]
  refine' wpAnyH_take (i := 9) (oi := ?oi8) (v := ?v8) ?ha8 (by kernel_rfl) ?hf8 ?hr8 ?hQ8 (Or.inl ⟨?hw8, ?hy8⟩) (by assumption) ?rest8
  case ha8 => (simp only [List.getElem?_toArray, List.getElem?_cons_succ, List.getElem?_cons_zero]; exact rfl)
  case hQ8 => exact fun _ _ _ h => h
  case hf8 => kernel_rfl
  case hr8 => kernel_rfl
  case hw8 => rfl
  case hy8 => (intro w hSw; (try dsimp only at hSw); go_simp; (try with_reducible rfl))
  try simp only [Act.put, List.setIfInBounds_toArray, List.set_cons_zero, List.set_cons_succ]
  refine' wpAnyH_take (i := 10) (oi := ?oi9) (v := undef) ?ha9 (by kernel_rfl) ?hf9 ?hr9 ?hQ9 (Or.inr ⟨?hw9, rfl⟩) (by assumption) ?rest9
  case ha9 => (simp only [List.getElem?_toArray, List.getElem?_cons_succ, List.getElem?_cons_zero]; exact rfl)
  case hQ9 => exact fun _ _ _ h => h
  case hf9 => kernel_rfl
  case hr9 => kernel_rfl
  case hw9 => rfl
  try simp only [Act.put, List.setIfInBounds_toArray, List.set_cons_zero, List.set_cons_succ]
  refine' wpAnyH_take (i := 11) (oi := ?oi10) (v := undef) ?ha10 (by kernel_rfl) ?hf10 ?hr10 ?hQ10 (Or.inr ⟨?hw10, rfl⟩) (by assumption) ?rest10
  case ha10 => (simp only [List.getElem?_toArray, List.getElem?_cons_succ, List.getElem?_cons_zero]; exact rfl)
  case hQ10 => exact fun _ _ _ h => h
  case hf10 => kernel_rfl
  case hr10 => kernel_rfl
  case hw10 => rfl
  try simp only [Act.put, List.setIfInBounds_toArray, List.set_cons_zero, List.set_cons_succ]
  refine' wpAnyH_take (i := 12) (oi := ?oi11) (v := ?v11) ?ha11 (by kernel_rfl) ?hf11 ?hr11 ?hQ11 (Or.inl ⟨?hw11, ?hy11⟩) (by assumption) ?rest11
  case ha11 => (simp only [List.getElem?_toArray, List.getElem?_cons_succ, List.getElem?_cons_zero]; exact rfl)
  case hQ11 => exact fun _ _ _ h => h
  case hf11 => kernel_rfl
  case hr11 => kernel_rfl
  case hw11 => rfl
  case hy11 => (intro w hSw; (try dsimp only at hSw); go_simp; (try with_reducible rfl))
  try simp only [Act.put, List.setIfInBounds_toArray, List.set_cons_zero, List.set_cons_succ]
  refine wpAnyH_ready (rs := [6]) (by kernel_rfl) (by simp) ?_
  refine' AllReadyH.cons (o := ?oi12) ?ha12 (fun K hK => ?step12) AllReadyH.nil
  case ha12 => (simp only [List.getElem?_toArray, List.getElem?_cons_succ, List.getElem?_cons_zero]; exact rfl)
  go_simp
  refine hK.out _ _ (⟨y0 _, y1 _⟩) (fun hHeld => ?_)
  clear hK K
  try simp only [Act.put, List.setIfInBounds_toArray, List.set_cons_zero, List.set_cons_succ]
  refine' wpAnyH_take (i := 13) (oi := ?oi13) (v := ?v13) ?ha13 (by kernel_rfl) ?hf13 ?hr13 ?hQ13 (Or.inl ⟨?hw13, ?hy13⟩) (by assumption) ?rest13
  case ha13 => (simp only [List.getElem?_toArray, List.getElem?_cons_succ, List.getElem?_cons_zero]; exact rfl)
  case hQ13 => exact fun _ _ _ h => h
  case hf13 => kernel_rfl
  case hr13 => kernel_rfl
  case hw13 => rfl
  case hy13 => (intro w hSw; (try dsimp only at hSw); go_simp; (try with_reducible rfl))
  try simp only [Act.put, List.setIfInBounds_toArray, List.set_cons_zero, List.set_cons_succ]
  refine' wpAnyH_take (i := 14) (oi := ?oi14) (v := ?v14) ?ha14 (by kernel_rfl) ?hf14 ?hr14 ?hQ14 (Or.inl ⟨?hw14, ?hy14⟩) (by assumption) ?rest14
  case ha14 => (simp only [List.getElem?_toArray, List.getElem?_cons_succ, List.getElem?_cons_zero]; exact rfl)
  case hQ14 => exact fun _ _ _ h => h
  case hf14 => kernel_rfl
  case hr14 => kernel_rfl
  case hw14 => rfl
  case hy14 => (intro w hSw; (try dsimp only at hSw); go_simp; (try with_reducible rfl))
  try simp only [Act.put, List.setIfInBounds_toArray, List.set_cons_zero, List.set_cons_succ]
  refine wpAnyH_done (by kernel_rfl) ?_ _
  all_goals clear x0 y0 r00 x1 y1 r10
  all_goals
    go_wp2_with fail
    have q1 : j ≤ vcap v := by omega
    have q2 : IntKind.i64.wrap ((j : Int) + 2) = (j : Int) + 2 := IntWalk.i64_in _ ⟨by omega, by omega⟩
    have q3 : (j : Int) + 2 ≤ (xs.length : Int) := by omega
    have q4 : 0 ≤ (j : Int) + 2 := by omega
    have q5 : ((j : Int) + 2).toNat = j + 2 := by omega
    have q6 : xs.length ≤ vcap v := hcap
    have q8 : IntKind.i64.wrap (j : Int) = (j : Int) := IntWalk.i64_in _ ⟨by omega, by omega⟩
    have q9 : (j : Int) ≤ (xs.length : Int) := by omega
    have q10 : (0 : Int) ≤ (j : Int) := by omega
    have q11 : j ≤ xs.length := by omega
    have q12 : (xs.length : Int) ≤ ((vcap v : Nat) : Int) := by omega
    have q7 : j + 2 ≤ vcap v := by omega
    obtain ⟨x1, x2, x3, hx1, -⟩ := sc1.cases
    obtain ⟨y1, y2, y3, hy1, -⟩ := sc2.cases
    have HC1' := Lib.hid HX1.out
    have HC2' := Lib.hid HX2.out
    rw [hx1] at HC1'
    rw [hy1] at HC2'
    obtain ⟨V, hV⟩ : ∃ V, V = (X.alloc (.cells #[.int .i64 p1, .int .i64 p0] 3)).drew := ⟨_, rfl⟩
    rw [← hV]
    have v0 : V.cell? ⟨w.heap.size, 0, none⟩ = some (.int .i64 3) := by rw [hV]; exact w0
    have v1 : V.cell? ⟨w.heap.size, 1, none⟩ = some (.int .i64 j) := by rw [hV]; exact w1
    have z1 : Ints V.drew (.slice x1 x2 x3) ((xs.drop 0).take (j - 0)) := by rw [hV]; (first | exact HC1'.out | exact HC1'.out.below (Below.refl _ _).drew | exact HC1'.out.below ((Below.drawn _).drew))
    have z2 : Ints V.drew (.slice (some ⟨X.heap.size, 0, none⟩) 2 2) [p1, p0] := by rw [hV]; (first | exact HXL.out | exact HXL.out.below (Below.refl _ _).drew | exact HXL.out.below ((Below.drawn _).drew))
    have z3 : Ints V.drew (.slice y1 y2 y3) ((xs.drop (j + 2)).take (xs.length - (j + 2))) := by rw [hV]; (first | exact HC2'.out | exact HC2'.out.below (Below.refl _ _).drew | exact HC2'.out.below ((Below.drawn _).drew))
    have zb : Below w.heap.size w V.drew := by rw [hV]; (first | exact HXB.out | exact HXB.out.drew | exact Below.chain HXB.out ((Below.drawn _).drew))
    have ZC := Lib.hid (concat_calls _ [.slice x1 x2 x3, .slice (some ⟨X.heap.size, 0, none⟩) 2 2, .slice y1 y2 y3] [(xs.drop 0).take (j - 0), [p1, p0], (xs.drop (j + 2)).take (xs.length - (j + 2))] _ (m_rowsV3 z1 z2 z3) (by simp; omega))
    have ZB := Lib.hid (Below.chain zb ((Below.refl _ _).alloc (Nat.le_refl _) (.cells #[.slice x1 x2 x3, .slice (some ⟨X.heap.size, 0, none⟩) 2 2, .slice y1 y2 y3] 25)))
    clear hV z1 z2 z3 zb
    go_still_tail 11, (by kernel_rfl)
    go_wp2_with fail
    refine ZC.out.mono ?_
    rintro e w' ⟨o, rfl, ho, hbo⟩
    have so := ho.isSl
    have he : [(xs.drop 0).take (j - 0), [p1, p0], (xs.drop (j + 2)).take (xs.length - (j + 2))].flatten = xs.take j ++ [p1, p0] ++ xs.drop (j + 2) := by
      rw [List.take_of_length_le (l := xs.drop (j + 2)) (by simp)]; simp
    rw [he] at ho
    have HO := Lib.hid (ho.low (by have := ZB.out.size; exact this))
    have HBO := Lib.hid (Below.chain ZB.out hbo)
    clear ho hbo
    go_wp2_with fail
    go_ret2
    exact ⟨_, rfl, HO.out, HBO.out⟩

end Go.Proofs.Ytmcecmnbdcbehaa


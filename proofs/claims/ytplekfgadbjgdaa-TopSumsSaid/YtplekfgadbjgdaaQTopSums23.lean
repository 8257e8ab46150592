/- braid.Matrix walked: the Burau matrix of a word. -/
import Derived.Test.YtplekfgadbjgdaaQTopSums0
import Derived.Test.YtplekfgadbjgdaaQTopSums1
import Derived.Test.YtplekfgadbjgdaaQTopSums3
import Derived.Test.YtplekfgadbjgdaaQTopSums4
import Derived.Test.YtplekfgadbjgdaaQTopSums5
import Derived.Test.YtplekfgadbjgdaaQTopSums6
import Derived.Test.YtplekfgadbjgdaaQTopSums7
import Derived.Test.YtplekfgadbjgdaaQTopSums8
import Derived.Test.YtplekfgadbjgdaaQTopSums9
import Derived.Test.YtplekfgadbjgdaaQTopSums10
import Derived.Test.YtplekfgadbjgdaaQTopSums11
import Derived.Test.YtplekfgadbjgdaaQTopSums12
import Derived.Test.YtplekfgadbjgdaaQTopSums13
import Derived.Test.YtplekfgadbjgdaaQTopSums14
import Derived.Test.YtplekfgadbjgdaaQTopSums15
import Derived.Test.YtplekfgadbjgdaaQTopSums19
import Derived.Deep.CutRange
import Derived.RangeFuncNested
import Derived.RangeFuncBound
import Derived.RangeFuncCalls
import Derived.RangeFuncLeaves
import Derived.RangeFuncBox
import Derived.Shelf.Abstract
import Derived.Shelf.RegionOpen
import Derived.OwnWalkIn
import Derived.TacticsInMore
import Derived.LoopNIn
import Derived.LoopIn
import Derived.Maps.AppendAt
import Derived.Deep.RegionLaw
namespace Go.Proofs.Ytplekfgadbjgdaa
open Go.RowKit Go.Sl

theorem info_poly : (Try.prog.info? 40).map (fun i => (i.zero, i.size, i.bytes)) = some (some (.agg #[.int .i64 0, .slice none 0 0]), 2, 32) := by kernel_rfl
theorem info_polys : (Try.prog.info? 92).map (fun i => (i.zero, i.size, i.bytes)) = some (some (.slice none 0 0), 1, 24) := by kernel_rfl
theorem made_polys (n : Nat) (hn : n ≤ 6) : madeCells #[.int .i64 0, .slice none 0 0] (n * 2) = (pcs (List.replicate n (.slice none 0 0)) (List.replicate n pzero)).toArray := by
  rcases (show n = 0 ∨ n = 1 ∨ n = 2 ∨ n = 3 ∨ n = 4 ∨ n = 5 ∨ n = 6 by omega) with rfl | rfl | rfl | rfl | rfl | rfl | rfl <;> (apply Array.ext'; simp [madeCells, List.range_succ, pcs, List.replicate_succ, pzero])
/-- make of a slice of polynomials. -/
theorem wpList_makePolys {w : World} {ops : Array Oper} {rest : List Oper} {o : Oper} {a : Act} {Q : Exit → Act → World → Prop} (hgd : o.guard = none) (l c : Operand) (ho : o.op = Op.makeSlice 92 l c)
    (L C : Int) (n : Nat) (hl : a.eval l = .int .i64 L) (hc : a.eval c = .int .i64 C) (hL : L = (n : Int)) (hC : C = (n : Int)) (hm : n ≤ 6)
    (h : ∀ v' w', PRow w' w.heap.size v' (List.replicate n (.slice none 0 0)) (List.replicate n pzero) → Below w.heap.size w w' → vblk v' = w.heap.size → IsSl v' → vlen v' = n → w'.heap.size = w.heap.size + 1 → wpList Try.prog ops Q rest (a.put o.dst v') w') : wpList Try.prog ops Q (o :: rest) a w := by
  obtain ⟨i, hi, hz, hsize, hby⟩ := info_parts info_poly
  refine wpList_plain hgd fun K hK => ?_
  subst hL hC
  have hb' : (i.bytes : Int) * (n : Int) ≤ 281474976710656 := by rw [hby]; omega
  have hr := run_make (P := Try.prog) w 92 40 i (.agg #[.int .i64 0, .slice none 0 0]) Try.underlying92 hi hz .i64 .i64 (n : Int) (n : Int) (by omega) (by omega) hb' (by omega)
  unfold Oper.wp execOp
  have hcells : madeCells (Value.cells (.agg #[.int .i64 0, .slice none 0 0])) (n * i.size) = (pcs (List.replicate n (.slice none 0 0)) (List.replicate n pzero)).toArray := by
    rw [hsize]; exact made_polys n hm
  simp [ho, hl, hc, hr]
  have hlen : (pcs (List.replicate n (.slice none 0 0)) (List.replicate n pzero)).length = n * 2 := by rw [pcs_length _ _ (by simp)]; simp
  have hsl : IsSl (.slice (some ⟨w.heap.size, 0, none⟩) n n) := isSl_mk _ _ _ _ (Nat.le_refl _) (by simp only [maxLen]; omega)
  refine hK _ _ (h _ _ ⟨⟨hsl, by simpa using hlen, fun _ => ⟨Nat.le_refl _, rfl, _, heap_alloc_new w _, ?_, ?_⟩⟩, by simp, fun j hj => ?_⟩ ((Below.refl _ _).alloc (Nat.le_refl _) _) rfl hsl rfl (by simp))
  · have := congrArg Array.size hcells
    simp at this ⊢; omega
  · have := congrArg Array.toList hcells
    simp at this ⊢
    rw [this, List.take_of_length_le (by omega)]
  · simp only [List.length_replicate] at hj
    have e1 : nthv (List.replicate n (Value.slice none 0 0)) j = .slice none 0 0 := by rw [nthv_lt (by simpa using hj)]; simp
    have e2 : nthp (List.replicate n pzero) j = pzero := by rw [nthp_lt (by simpa using hj)]; simp
    rw [e1, e2]; exact ownI_nil _ _

theorem rows_step (n k : Nat) (_hk : k < n) : ((List.range k).map (urow n) ++ [List.replicate n pzero]).set k ((nthm ((List.range k).map (urow n) ++ [List.replicate n pzero]) k).set k (pterm 1 0)) = (List.range (k + 1)).map (urow n) := by
  have e : nthm ((List.range k).map (urow n) ++ [List.replicate n pzero]) k = List.replicate n pzero := by simp [nthm]
  rw [e, List.set_append_right _ _ (by simp)]
  simp [List.range_succ, urow]

set_option maxRecDepth 100000 in
set_option maxHeartbeats 1000000 in
theorem matrix_calls' (n : Nat) (v : Value) (xs : List Int) (w : World) (hv : Ints w v xs) (hn1 : 1 ≤ n) (hn6 : n ≤ 6) (hx : NWord n xs) (hl : xs.length ≤ 20) :
    Calls Try.prog 76 #[.int .i64 n, v] w fun e w' => ∃ u vs, e = .returned u ∧ PMat w' w.heap.size u vs (burauM n xs) ∧ vs.length = n ∧ Below w.heap.size w w' := by
  have sv := hv.isSl
  have lv := hv.len
  have HV := Lib.hid hv; have HX := Lib.hid hx
  clear hv hx
  obtain ⟨i, hi, hz0, hz1, hz2⟩ := info_parts info_polys
  have HI := Lib.hid hi; have HZ0 := Lib.hid hz0; have HZ1 := Lib.hid hz1; have HZ2 := Lib.hid hz2
  clear hi hz0 hz1 hz2
  go_enter Try.func76, Try.ntmps76
  go_wp2_with (refine wpList_make_sl rfl _ _ _ rfl 92 i (.slice none 0 0) 24 Try.underlying90 HI.out HZ0.out HZ1.out HZ2.out rfl _ _ n rfl rfl rfl rfl (by omega) (by simp only [maxLen]; omega) ?_; intro out w1 ho hg hlo hsz; have so := ho.isSl)
  go_loopw [21] (fun i wr => ∃ (k : Nat) (vs : List Value), k ≤ n ∧ i = .int .i64 k ∧ vs.length = n ∧ PMat wr w.heap.size out vs ((List.range k).map (urow n)) ∧ Below w.heap.size w wr) (fun i _ => n - (intOf i).toNat)
  case atStart => exact ⟨0, _, Nat.zero_le _, rfl, by simp, ⟨ho, by simp, fun i hi => by simp at hi, fun i hi => by simp at hi, fun i j hi => by simp at hi⟩, Below_of_grown (Below.refl _ _) hg (Nat.le_refl _) (fun k hk => by cases hk)⟩
  case round =>
    obtain ⟨k, vs, hk, rfl, hvs, hm, hb⟩ := hrel
    by_cases hlt : k < n
    · have HM := Lib.hid hm; have HB := Lib.hid hb
      have hml : ((List.range k).map (urow n)).length = k := by simp
      have f0 := hm.frozen (i := k) (by omega)
      have c0 := hm.cell (i := k) (by omega)
      clear hm hb
      go_wp2_with (refine wpList_makePolys rfl _ _ rfl _ _ n rfl rfl rfl rfl hn6 ?_; intro r w2 hr hb2 hblk sr lr hsz2; have f1 := (hb2.frozen (World.block_lt_of_cell? _ _ c0)).trans f0; have c1 := cell_keep hb2 c0)
      have hm2 := HM.out.below hb2
      have hm3 := hm2.setRow (by rw [hml]; omega) (hr.low' HB.out.size) (by simp; omega) (fun i hi => by
        obtain ⟨us, hrow⟩ := HM.out.row i hi
        have := (hrow.blk (HM.out.pos i hi)).2
        rw [hblk]; omega)
      rw [hml] at hm3
      obtain ⟨W3, hW3⟩ : ∃ W3, W3 = w2.setCell (vat out k) r := ⟨_, rfl⟩
      rw [← hW3] at hm3 ⊢
      have hb3 : Below w.heap.size w W3 := by rw [hW3]; exact (HB.out.trans (hb2.mono HB.out.size)).setCell (by have := (HM.out.own.getCell (j := k) (by omega)).choose_spec.2.1; exact this) _
      have cr := hm3.cell (i := k) (by rw [List.length_set]; omega)
      rw [nthv_set (by omega), if_pos rfl] at cr
      have hne : (vat out k).block ≠ vblk r := by
        have := (HM.out.own.lt _ (row_some (HM.out.own.cap_of (j := k) (by omega)))).2
        rw [hblk]; simp only [vat_block]; omega
      have HM3 := Lib.hid hm3; have HB3 := Lib.hid hb3
      have hBw2 := HB.out.size
      clear hm2 hm3 hW3 hb3 hr hb2 f0 f1 c0 c1
      refine wp_region_held_drew (S := Keeps W3 (fun b => b = vblk r)) (by kernel_rfl) (Keeps.drew (Keeps.refl _ _)) (fun hHeld => ?_)
      refine' wpAnyH_take (i := 0) (oi := ?oiz1) (v := ?vz1) ?haz1 (by kernel_rfl) ?hfz1 ?hrz1 ?hQz1 (Or.inl ⟨?hwz1, ?hyz1⟩) (by assumption) ?restz1
      case haz1 => (simp only [List.getElem?_toArray, List.getElem?_cons_zero]; exact rfl)
      case hQz1 => exact fun _ _ _ h => h
      case hfz1 => kernel_rfl
      case hrz1 => kernel_rfl
      case hwz1 => rfl
      case hyz1 => (intro w hSw; (try dsimp only at hSw); have e0 := hSw _ _ cr hne; go_simp; (try with_reducible rfl))
      try simp only [Act.put, List.setIfInBounds_toArray, List.set_cons_zero, List.set_cons_succ]
      refine' wpAnyH_take (i := 1) (oi := ?oiz2) (v := ?vz2) ?haz2 (by kernel_rfl) ?hfz2 ?hrz2 ?hQz2 (Or.inl ⟨?hwz2, ?hyz2⟩) (by assumption) ?restz2
      case haz2 => (simp only [List.getElem?_toArray, List.getElem?_cons_succ, List.getElem?_cons_zero]; exact rfl)
      case hQz2 => exact fun _ _ _ h => h
      case hfz2 => kernel_rfl
      case hrz2 => kernel_rfl
      case hwz2 => rfl
      case hyz2 => (intro w hSw; (try dsimp only at hSw); have e0 := hSw _ _ cr hne; go_simp; (try with_reducible rfl))
      try simp only [Act.put, List.setIfInBounds_toArray, List.set_cons_zero, List.set_cons_succ]
      refine' wpAnyH_take (i := 2) (oi := ?oiz3) (v := ?vz3) ?haz3 (by kernel_rfl) ?hfz3 ?hrz3 ?hQz3 (Or.inl ⟨?hwz3, ?hyz3⟩) (by assumption) ?restz3
      case haz3 => (simp only [List.getElem?_toArray, List.getElem?_cons_succ, List.getElem?_cons_zero]; exact rfl)
      case hQz3 => exact fun _ _ _ h => h
      case hfz3 => kernel_rfl
      case hrz3 => kernel_rfl
      case hwz3 => rfl
      case hyz3 => (intro w hSw; (try dsimp only at hSw); have e0 := hSw _ _ cr hne; go_simp; (try with_reducible rfl))
      try simp only [Act.put, List.setIfInBounds_toArray, List.set_cons_zero, List.set_cons_succ]
      refine' wpAnyH_take (i := 3) (oi := ?oiz4) (v := ?vz4) ?haz4 (by kernel_rfl) ?hfz4 ?hrz4 ?hQz4 (Or.inl ⟨?hwz4, ?hyz4⟩) (by assumption) ?restz4
      case haz4 => (simp only [List.getElem?_toArray, List.getElem?_cons_succ, List.getElem?_cons_zero]; exact rfl)
      case hQz4 => exact fun _ _ _ h => h
      case hfz4 => kernel_rfl
      case hrz4 => kernel_rfl
      case hwz4 => rfl
      case hyz4 => (intro w hSw; (try dsimp only at hSw); have e0 := hSw _ _ cr hne; go_simp; (try with_reducible rfl))
      try simp only [Act.put, List.setIfInBounds_toArray, List.set_cons_zero, List.set_cons_succ]
      refine' wpAnyH_take (i := 4) (oi := ?oiz5) (v := ?vz5) ?haz5 (by kernel_rfl) ?hfz5 ?hrz5 ?hQz5 (Or.inl ⟨?hwz5, ?hyz5⟩) (by assumption) ?restz5
      case haz5 => (simp only [List.getElem?_toArray, List.getElem?_cons_succ, List.getElem?_cons_zero]; exact rfl)
      case hQz5 => exact fun _ _ _ h => h
      case hfz5 => kernel_rfl
      case hrz5 => kernel_rfl
      case hwz5 => rfl
      case hyz5 => (intro w hSw; (try dsimp only at hSw); have e0 := hSw _ _ cr hne; go_simp; (try with_reducible rfl))
      try simp only [Act.put, List.setIfInBounds_toArray, List.set_cons_zero, List.set_cons_succ]
      refine wpAnyH_ready (rs := [5]) (by kernel_rfl) (by simp) ?_
      refine' AllReadyH.cons (o := ?oiz6) ?haz6 (fun K hK => ?stepz6) AllReadyH.nil
      case haz6 => (simp only [List.getElem?_toArray, List.getElem?_cons_succ, List.getElem?_cons_zero]; exact rfl)
      go_simp
      refine (term_calls 1 0 _ (by omega) (by omega)).mono ?_
      rintro e w4 ⟨C, rfl, hC, hb4⟩
      have sC := hC.isSl
      have hb4' : Below W3.heap.size W3 w4 := Below.chain (Below.refl _ _).drew hb4
      go_wp2_with fail
      refine hK.out _ _ (hHeld.below hb4) (fun hHeld => ?_)
      clear hK K
      try simp only [Act.put, List.setIfInBounds_toArray, List.set_cons_zero, List.set_cons_succ]
      refine' wpAnyH_take (i := 6) (oi := ?oiz7) (v := ?vz7) ?haz7 (by kernel_rfl) ?hfz7 ?hrz7 ?hQz7 (Or.inl ⟨?hwz7, ?hyz7⟩) (by assumption) ?restz7
      case haz7 => (simp only [List.getElem?_toArray, List.getElem?_cons_succ, List.getElem?_cons_zero]; exact rfl)
      case hQz7 => exact fun _ _ _ h => h
      case hfz7 => kernel_rfl
      case hrz7 => kernel_rfl
      case hwz7 => rfl
      case hyz7 => (intro w hSw; (try dsimp only at hSw); have e0 := hSw _ _ cr hne; go_simp; (try with_reducible rfl))
      try simp only [Act.put, List.setIfInBounds_toArray, List.set_cons_zero, List.set_cons_succ]
      refine wpAnyH_ready (rs := [7]) (by kernel_rfl) (by simp) ?_
      refine' AllReadyH.cons (o := ?oiz8) ?haz8 (fun K hK => ?stepz8) AllReadyH.nil
      case haz8 => (simp only [List.getElem?_toArray, List.getElem?_cons_succ, List.getElem?_cons_zero]; exact rfl)
      have hm4 := HM3.out.below hb4'
      obtain ⟨us4, hr4⟩ := hm4.row k (by simp)
      rw [nthv_set (by omega), if_pos rfl] at hr4
      have hl4 : (nthm ((List.range k).map (urow n) ++ [List.replicate n pzero]) k).length = n := by simp [nthm]
      have a0 := hr4.read.low (j := k) (by omega)
      have a1 := hr4.read.c (j := k) (by omega)
      have f0 := hr4.frozen0 (j := k) (by omega)
      have f1 := hr4.frozen1 (j := k) (by omega)
      have a1' : ∀ x, (w4.setCell (vat r (k * 2)) x).cell? (vat r (k * 2 + 1)) = some (nthv us4 k) := fun x => by rw [cell_other _ _ (by omega)]; exact a1
      have f1' : ∀ x, (w4.setCell (vat r (k * 2)) x).frozen? (vat r (k * 2 + 1)) = false := fun x => by rw [frozen_other]; exact f1
      clear hr4
      go_simp
      skip
      refine hK.out _ _ (Keeps.set (p := vat r (k * 2 + 1)) (Keeps.set (p := vat r (k * 2)) hHeld rfl _) rfl _) (fun hHeld => ?_)
      clear hK K
      try simp only [Act.put, List.setIfInBounds_toArray, List.set_cons_zero, List.set_cons_succ]
      refine wpAnyH_done (by kernel_rfl) ?_ _
      have hC' := hC.low (B' := w.heap.size) HB3.out.size
      have hm5 := (HM3.out.below hb4').set (i := k) (j := k) (by simp) (by omega) hC'
      rw [nthv_set (by omega), if_pos rfl, rows_step n k hlt] at hm5
      have hb5 := ((HB3.out.trans (hb4'.mono HB3.out.size)).setCell (p := vat r (k * 2)) (by rw [vat_block, hblk]; have := HB.out.size; exact hBw2) (.int .i64 (pterm 1 0).low)).setCell (p := vat r (k * 2 + 1)) (by rw [vat_block, hblk]; exact hBw2) C
      have HM5 := Lib.hid hm5; have HB5 := Lib.hid hb5
      clear hm5 hb5 hC hC' hb4 hb4' hm4 a0 a1 f0 f1 a1' f1'
      go_wp2_with fail
      go_roundw
      case rel => exact ⟨k + 1, vs.set k r, by omega, by go_num, by rw [List.length_set]; exact hvs, HM5.out, HB5.out⟩
      case measure => simp [intOf]; omega
    · obtain rfl : n = k := by omega
      have HM := Lib.hid hm; have HB := Lib.hid hb
      clear hm hb
      go_wp2_with fail
      refine (term_calls 1 0 _ (by omega) (by omega)).mono ?_
      rintro e w4 ⟨C, rfl, hC, hb4⟩
      have sC := hC.isSl
      have hlen1 : (pterm 1 0).c.length = 1 := by decide
      have hblt : ∀ i, i < n → vblk (nthv vs i) < wr.heap.size := by
        intro i hi
        obtain ⟨us, hrow⟩ := HM.out.row i (by simp; exact hi)
        exact (hrow.blk (HM.out.pos i (by simp; exact hi))).2
      have hcb : wr.heap.size ≤ vblk C := hC.ge (k := 0) (by omega)
      have hw4 : wr.heap.size ≤ w4.heap.size := hb4.size
      obtain ⟨W6, hW6⟩ : ∃ W6, W6 = (w4.alloc (.cells #[.int .i64 0, .slice none 0 0] 40)).alloc (.cells #[.int .i64 (pterm 1 0).low, C] 40) := ⟨_, rfl⟩
      have hb46 : Below w4.heap.size w4 W6 := by rw [hW6]; exact ((Below.refl _ _).alloc (Nat.le_refl _) _).alloc (by simp) _
      have hs6 : W6.heap.size = w4.heap.size + 2 := by rw [hW6]; simp
      have c70 : W6.cell? ⟨w4.heap.size, 0, none⟩ = some (.int .i64 0) := by rw [hW6]; exact ((pair_new w4 _ _ _).alloc _).cell0
      have c71 : W6.cell? ⟨w4.heap.size, 1, none⟩ = some (.slice none 0 0) := by rw [hW6]; exact ((pair_new w4 _ _ _).alloc _).cell1
      have c80 : W6.cell? ⟨w4.heap.size + 1, 0, none⟩ = some (.int .i64 (pterm 1 0).low) := by rw [hW6]; have := (pair_new (w4.alloc (.cells #[.int .i64 0, .slice none 0 0] 40)) 40 (.int .i64 (pterm 1 0).low) C).cell0; rwa [World.size_alloc] at this
      have c81 : W6.cell? ⟨w4.heap.size + 1, 1, none⟩ = some C := by rw [hW6]; have := (pair_new (w4.alloc (.cells #[.int .i64 0, .slice none 0 0] 40)) 40 (.int .i64 (pterm 1 0).low) C).cell1; rwa [World.size_alloc] at this
      have hb4' := HB.out.trans (hb4.mono HB.out.size)
      have HM6 := Lib.hid ((HM.out.below hb4).below hb46)
      have HB6 := Lib.hid (hb4'.trans (hb46.mono hb4'.size))
      have HC := Lib.hid (hC.ints.below hb46)
      obtain ⟨R, hR⟩ : ∃ R : Nat → Prop, R = fun b => ∃ i, i < n ∧ b = vblk (nthv vs i) := ⟨_, rfl⟩
      have n7 : ¬ R w4.heap.size := by rw [hR]; rintro ⟨i, hi, e⟩; have := hblt i hi; omega
      have n8 : ¬ R (w4.heap.size + 1) := by rw [hR]; rintro ⟨i, hi, e⟩; have := hblt i hi; omega
      have nC : ¬ R (vblk C) := by rw [hR]; rintro ⟨i, hi, e⟩; have := hblt i hi; omega
      have HRI := Lib.hid (show ∀ i, i < n → R (vblk (nthv vs i)) by rw [hR]; exact fun i hi => ⟨i, hi, rfl⟩)
      have HRB := Lib.hid (show ∀ b, R b → b < w4.heap.size by rw [hR]; rintro b ⟨i, hi, rfl⟩; have := hblt i hi; omega)
      have HHR := Lib.hid hR
      have HK7 := Lib.hid c70; have HK71 := Lib.hid c71; have HK8 := Lib.hid c80; have HK81 := Lib.hid c81
      have HHW6 := Lib.hid hW6.symm
      clear hC hb4 HM HB hblt hcb hw4 hb46 hb4' hR hW6 c70 c71 c80 c81
      go_wp2_with fail
      rw [HHW6.out]
      go_loopw [41] (fun i wr => ∃ m : Nat, m ≤ xs.length ∧ i = .int .i64 m ∧ PMat wr w.heap.size out vs (burauM n (xs.take m)) ∧ Below w.heap.size w wr ∧ Keeps W6 R wr ∧ W6.heap.size ≤ wr.heap.size) (fun i _ => xs.length - (intOf i).toNat)
      case atStart => exact ⟨0, Nat.zero_le _, rfl, HM6.out, HB6.out, Keeps.refl _ _, Nat.le_refl _⟩
      case round =>
        obtain ⟨m, hm, rfl, hpm, hbb, hke, hsz6⟩ := hrel
        by_cases hmx : m < xs.length
        · have cx := (HV.out.below hbb).cell hmx
          obtain ⟨x, hxe⟩ : ∃ x, nth xs m = x := ⟨_, rfl⟩
          rw [hxe] at cx
          have hx0 := HX.out x (by rw [← hxe]; exact nth_mem hmx)
          have HXE := Lib.hid hxe
          have HPM := Lib.hid hpm; have HBB := Lib.hid hbb; have HKE := Lib.hid hke
          clear hpm hbb hke hxe
          go_wp2_with fail
          refine (bindex_calls x _ (by omega) (by omega)).mono ?_
          rintro e w' ⟨rfl, rfl⟩
          obtain ⟨p, hp⟩ : ∃ p : Nat, x.natAbs = p + 1 := ⟨x.natAbs - 1, by omega⟩
          rw [hp]
          have hsb := HBB.out.size
          have k70 : ¬ (fun b => wr.heap.size ≤ b) w4.heap.size := by simp only; omega
          have k80 : ¬ (fun b => wr.heap.size ≤ b) (w4.heap.size + 1) := by simp only; omega
          have ck70 := HKE.out _ _ HK7.out n7; have ck71 := HKE.out _ _ HK71.out n7; have ck80 := HKE.out _ _ HK8.out n8; have ck81 := HKE.out _ _ HK81.out n8
          have HCI := Lib.hid (HKE.out.ints HC.out (fun _ => nC))
          go_upto_region 13 with (fail)
          go_cut [12] from 43 to 111 (fun s12 wc => ∃ b u00 u01 u10 u11, s12 = .pointer (some ⟨b, 0, none⟩) ∧ MB R wr wc b 1 u00 u01 u10 u11)
          case first =>
            have k71 := k70
            have k81 := k80
            have hCw : vblk C < wr.heap.size := HCI.out.blk_lt (by decide)
            refine wp_region_held_drew (S := Keeps wr (fun b => wr.heap.size ≤ b)) (by kernel_rfl) (Keeps.drew (Keeps.refl _ _)) (fun hHeld => ?_)
            have BEL : Below wr.heap.size wr wr.drew := (Below.refl _ _).drew
            obtain ⟨y0, hy0⟩ : ∃ y0, y0 = wr.drew := ⟨_, rfl⟩
            rw [← hy0] at hHeld BEL ⊢
            clear hy0
            refine' wpAnyH_take (i := 4) (oi := ?oiz9) (v := ?vz9) ?haz9 (by kernel_rfl) ?hfz9 ?hrz9 ?hQz9 (Or.inl ⟨?hwz9, ?hyz9⟩) (by assumption) ?restz9
            case haz9 => (simp only [List.getElem?_toArray, List.getElem?_cons_succ, List.getElem?_cons_zero]; exact rfl)
            case hQz9 => exact fun _ _ _ h => h
            case hfz9 => kernel_rfl
            case hrz9 => kernel_rfl
            case hwz9 => rfl
            case hyz9 => (intro w hSw; (try dsimp only at hSw); have e0 := hSw _ _ ck70 k70; have e1 := hSw _ _ ck71 k71; have e2 := hSw _ _ ck80 k80; have e3 := hSw _ _ ck81 k81; go_simp; (try with_reducible rfl))
            try simp only [Act.put, List.setIfInBounds_toArray, List.set_cons_zero, List.set_cons_succ]
            refine' wpAnyH_take (i := 5) (oi := ?oiz10) (v := ?vz10) ?haz10 (by kernel_rfl) ?hfz10 ?hrz10 ?hQz10 (Or.inl ⟨?hwz10, ?hyz10⟩) (by assumption) ?restz10
            case haz10 => (simp only [List.getElem?_toArray, List.getElem?_cons_succ, List.getElem?_cons_zero]; exact rfl)
            case hQz10 => exact fun _ _ _ h => h
            case hfz10 => kernel_rfl
            case hrz10 => kernel_rfl
            case hwz10 => rfl
            case hyz10 => (intro w hSw; (try dsimp only at hSw); have e0 := hSw _ _ ck70 k70; have e1 := hSw _ _ ck71 k71; have e2 := hSw _ _ ck80 k80; have e3 := hSw _ _ ck81 k81; go_simp; (try with_reducible rfl))
            try simp only [Act.put, List.setIfInBounds_toArray, List.set_cons_zero, List.set_cons_succ]
            refine' wpAnyH_take (i := 6) (oi := ?oiz11) (v := ?vz11) ?haz11 (by kernel_rfl) ?hfz11 ?hrz11 ?hQz11 (Or.inl ⟨?hwz11, ?hyz11⟩) (by assumption) ?restz11
            case haz11 => (simp only [List.getElem?_toArray, List.getElem?_cons_succ, List.getElem?_cons_zero]; exact rfl)
            case hQz11 => exact fun _ _ _ h => h
            case hfz11 => kernel_rfl
            case hrz11 => kernel_rfl
            case hwz11 => rfl
            case hyz11 => (intro w hSw; (try dsimp only at hSw); have e0 := hSw _ _ ck70 k70; have e1 := hSw _ _ ck71 k71; have e2 := hSw _ _ ck80 k80; have e3 := hSw _ _ ck81 k81; go_simp; (try with_reducible rfl))
            try simp only [Act.put, List.setIfInBounds_toArray, List.set_cons_zero, List.set_cons_succ]
            refine wpAnyH_ready (rs := [0, 8]) (by kernel_rfl) (by simp) ?_
            refine' AllReadyH.cons (o := ?oiz35) ?haz35 (fun K hK => ?stepz35) (AllReadyH.cons (o := ?oiz36) ?haz36 (fun K hK => ?stepz36) AllReadyH.nil)
            case haz35 => (simp only [List.getElem?_toArray, List.getElem?_cons_zero]; exact rfl)
            case haz36 => (simp only [List.getElem?_toArray, List.getElem?_cons_succ, List.getElem?_cons_zero]; exact rfl)
            case stepz35 =>
              go_simp
              obtain ⟨y1, hy1⟩ : ∃ y1, y1 = World.alloc (y0) (.cells #[.int .i64 1, .int .i64 (-1)] 3) := ⟨_, rfl⟩
              rw [← hy1]
              have sb : Below (World.heap (y0)).size (y0) y1 := by rw [hy1]; exact (Below.refl _ _).alloc (Nat.le_refl _) _
              have BEL := Below.chain BEL sb
              have LIT : Ints y1 (.slice (some ⟨y0.heap.size, 0, none⟩) 2 2) [1, -1] := by rw [hy1]; exact ints_lit [1, -1] (by simp) rfl rfl (by simp)
              have hk := hHeld.below sb
              clear sb hy1
              refine hK.out _ _ (hk) (fun hHeld => ?_)
              clear hK K
              try simp only [Act.put, List.setIfInBounds_toArray, List.set_cons_zero, List.set_cons_succ]
              refine wpAnyH_ready (rs := [1, 8]) (by kernel_rfl) (by simp) ?_
              refine' AllReadyH.cons (o := ?oiz27) ?haz27 (fun K hK => ?stepz27) (AllReadyH.cons (o := ?oiz28) ?haz28 (fun K hK => ?stepz28) AllReadyH.nil)
              case haz27 => (simp only [List.getElem?_toArray, List.getElem?_cons_succ, List.getElem?_cons_zero]; exact rfl)
              case haz28 => (simp only [List.getElem?_toArray, List.getElem?_cons_succ, List.getElem?_cons_zero]; exact rfl)
              case stepz27 =>
                go_simp
                refine (trim_calls 0 _ [1, -1] _ LIT (by simp) (by omega) (by omega)).mono ?_
                rintro e y2 ⟨U00, rfl, hU00, sb⟩
                have sU00 := hU00.isSl
                have OU00 := hU00.low (B' := wr.heap.size) BEL.size
                have LIT := LIT.below sb
                have BEL := Below.chain BEL sb
                have hk := hHeld.below sb
                clear sb hU00
                go_wp2_with fail
                refine hK.out _ _ (hk) (fun hHeld => ?_)
                clear hK K
                try simp only [Act.put, List.setIfInBounds_toArray, List.set_cons_zero, List.set_cons_succ]
                refine wpAnyH_ready (rs := [2, 8]) (by kernel_rfl) (by simp) ?_
                refine' AllReadyH.cons (o := ?oiz20) ?haz20 (fun K hK => ?stepz20) (AllReadyH.cons (o := ?oiz21) ?haz21 (fun K hK => ?stepz21) AllReadyH.nil)
                case haz20 => (simp only [List.getElem?_toArray, List.getElem?_cons_succ, List.getElem?_cons_zero]; exact rfl)
                case haz21 => (simp only [List.getElem?_toArray, List.getElem?_cons_succ, List.getElem?_cons_zero]; exact rfl)
                case stepz20 =>
                  go_simp
                  refine (term_calls 1 1 _ (by omega) (by omega)).mono ?_
                  rintro e y3 ⟨U01, rfl, hU01, sb⟩
                  have sU01 := hU01.isSl
                  have OU01 := hU01.low (B' := wr.heap.size) BEL.size
                  have OU00 := OU00.below sb
                  have BEL := Below.chain BEL sb
                  have hk := hHeld.below sb
                  clear sb hU01
                  go_wp2_with fail
                  refine hK.out _ _ (hk) (fun hHeld => ?_)
                  clear hK K
                  try simp only [Act.put, List.setIfInBounds_toArray, List.set_cons_zero, List.set_cons_succ]
                  refine' wpAnyH_take (i := 3) (oi := ?oiz12) (v := ?vz12) ?haz12 (by kernel_rfl) ?hfz12 ?hrz12 ?hQz12 (Or.inl ⟨?hwz12, ?hyz12⟩) (by assumption) ?restz12
                  case haz12 => (simp only [List.getElem?_toArray, List.getElem?_cons_succ, List.getElem?_cons_zero]; exact rfl)
                  case hQz12 => exact fun _ _ _ h => h
                  case hfz12 => kernel_rfl
                  case hrz12 => kernel_rfl
                  case hwz12 => rfl
                  case hyz12 => (intro w hSw; (try dsimp only at hSw); go_simp; (try with_reducible rfl))
                  try simp only [Act.put, List.setIfInBounds_toArray, List.set_cons_zero, List.set_cons_succ]
                  refine' wpAnyH_take (i := 7) (oi := ?oiz13) (v := ?vz13) ?haz13 (by kernel_rfl) ?hfz13 ?hrz13 ?hQz13 (Or.inl ⟨?hwz13, ?hyz13⟩) (by assumption) ?restz13
                  case haz13 => (simp only [List.getElem?_toArray, List.getElem?_cons_succ, List.getElem?_cons_zero]; exact rfl)
                  case hQz13 => exact fun _ _ _ h => h
                  case hfz13 => kernel_rfl
                  case hrz13 => kernel_rfl
                  case hwz13 => rfl
                  case hyz13 => (intro w hSw; (try dsimp only at hSw); go_simp; (try with_reducible rfl))
                  try simp only [Act.put, List.setIfInBounds_toArray, List.set_cons_zero, List.set_cons_succ]
                  refine wpAnyH_ready (rs := [8]) (by kernel_rfl) (by simp) ?_
                  refine' AllReadyH.cons (o := ?oiz15) ?haz15 (fun K hK => ?stepz15) AllReadyH.nil
                  case haz15 => (simp only [List.getElem?_toArray, List.getElem?_cons_succ, List.getElem?_cons_zero]; exact rfl)
                  go_simp
                  obtain ⟨y4, hy4⟩ : ∃ y4, y4 = World.alloc (y3) (.cells #[.int .i64 0, .slice none 0 0, .int .i64 0, .slice none 0 0, .int .i64 0, .slice none 0 0, .int .i64 0, .slice none 0 0] 130) := ⟨_, rfl⟩
                  rw [← hy4]
                  have sb : Below (World.heap (y3)).size (y3) y4 := by rw [hy4]; exact (Below.refl _ _).alloc (Nat.le_refl _) _
                  have hge : wr.heap.size ≤ y3.heap.size := BEL.size
                  have OU00 := OU00.below sb
                  have OU01 := OU01.below sb
                  have BEL := Below.chain BEL sb
                  have OCT : y4.heap[y3.heap.size]? = some (.cells #[.int .i64 0, .slice none 0 0, .int .i64 0, .slice none 0 0, .int .i64 0, .slice none 0 0, .int .i64 0, .slice none 0 0] 130 (0, 0)) := by rw [hy4]; exact heap_alloc_new _ _
                  have hk := hHeld.below sb
                  clear sb hy4
                  refine hK.out _ _ (hk) (fun hHeld => ?_)
                  clear hK K
                  try simp only [Act.put, List.setIfInBounds_toArray, List.set_cons_zero, List.set_cons_succ]
                  refine wpAnyH_ready (rs := [9]) (by kernel_rfl) (by simp) ?_
                  refine' AllReadyH.cons (o := ?oiz14) ?haz14 (fun K hK => ?stepz14) AllReadyH.nil
                  case haz14 => (simp only [List.getElem?_toArray, List.getElem?_cons_succ, List.getElem?_cons_zero]; exact rfl)
                  have hth : World.there _ (y3.heap.size) 0 8 := there_of OCT
                  have hni : ∀ {u xs}, OwnI _ wr.heap.size u xs → 0 < xs.length → vblk u ≠ y3.heap.size ∧ ¬ R (vblk u) := fun h h0 => ⟨fun e => Own.ne_of_type (by decide) h OCT _ (row_some (by have := h.ints.cap; omega)) e.symm, fun hr => by have h1 := HRB.out _ hr; have h2 := h.ge (k := 0) h0; rw [vat_block] at h2; omega⟩
                  have hcb : 0 < (bm 1 1 0).c.length → vblk C ≠ y3.heap.size ∧ ¬ R (vblk C) := fun _ => ⟨by omega, nC⟩
                  have hMB := MB.make (R := R) (x := 1) (u10 := C) (u11 := .slice none 0 0) BEL hge (Array.getElem?_eq_some_iff.1 OCT).1 hth OU00.ints OU01.ints (HCI.out.below BEL) (ints_nil _) (hni OU00) (hni OU01) hcb (fun h => absurd h (by decide))
                  rw [if_pos (by rfl)]
                  refine wp_store_mid 130 _ _ rfl (y3.heap.size) 0 (mcs 1 U00 U01 C (.slice none 0 0)).toArray rfl rfl hth (by kernel_rfl) (mcs_one sU00 sU01 sC isSl_nil) ?_
                  refine hK.out _ _ (keeps_cells hHeld hge 0 _) (fun hHeld => ?_)
                  clear hK K
                  try simp only [Act.put]
                  refine wpAnyH_done (by kernel_rfl) ?_ _
                  go_wp2_with fail
                  go_meet
                  case rel => exact ⟨_, _, _, _, _, rfl, hMB⟩
                case stepz21 =>
                  go_simp
                  obtain ⟨y5, hy5⟩ : ∃ y5, y5 = World.alloc (y2) (.cells #[.int .i64 0, .slice none 0 0, .int .i64 0, .slice none 0 0, .int .i64 0, .slice none 0 0, .int .i64 0, .slice none 0 0] 130) := ⟨_, rfl⟩
                  rw [← hy5]
                  have sb : Below (World.heap (y2)).size (y2) y5 := by rw [hy5]; exact (Below.refl _ _).alloc (Nat.le_refl _) _
                  have hge : wr.heap.size ≤ y2.heap.size := BEL.size
                  have OU00 := OU00.below sb
                  have BEL := Below.chain BEL sb
                  have OCT : y5.heap[y2.heap.size]? = some (.cells #[.int .i64 0, .slice none 0 0, .int .i64 0, .slice none 0 0, .int .i64 0, .slice none 0 0, .int .i64 0, .slice none 0 0] 130 (0, 0)) := by rw [hy5]; exact heap_alloc_new _ _
                  have hk := hHeld.below sb
                  clear sb hy5
                  refine hK.out _ _ (hk) (fun hHeld => ?_)
                  clear hK K
                  try simp only [Act.put, List.setIfInBounds_toArray, List.set_cons_zero, List.set_cons_succ]
                  refine wpAnyH_ready (rs := [2]) (by kernel_rfl) (by simp) ?_
                  refine' AllReadyH.cons (o := ?oiz19) ?haz19 (fun K hK => ?stepz19) AllReadyH.nil
                  case haz19 => (simp only [List.getElem?_toArray, List.getElem?_cons_succ, List.getElem?_cons_zero]; exact rfl)
                  go_simp
                  refine (term_calls 1 1 _ (by omega) (by omega)).mono ?_
                  rintro e y6 ⟨U01, rfl, hU01, sb⟩
                  have sU01 := hU01.isSl
                  have OU01 := hU01.low (B' := wr.heap.size) BEL.size
                  have OU00 := OU00.below sb
                  have OCT := (sb.block _ (Array.getElem?_eq_some_iff.1 OCT).1).trans OCT
                  have BEL := Below.chain BEL sb
                  have hk := hHeld.below sb
                  clear sb hU01
                  go_wp2_with fail
                  refine hK.out _ _ (hk) (fun hHeld => ?_)
                  clear hK K
                  try simp only [Act.put, List.setIfInBounds_toArray, List.set_cons_zero, List.set_cons_succ]
                  refine' wpAnyH_take (i := 3) (oi := ?oiz16) (v := ?vz16) ?haz16 (by kernel_rfl) ?hfz16 ?hrz16 ?hQz16 (Or.inl ⟨?hwz16, ?hyz16⟩) (by assumption) ?restz16
                  case haz16 => (simp only [List.getElem?_toArray, List.getElem?_cons_succ, List.getElem?_cons_zero]; exact rfl)
                  case hQz16 => exact fun _ _ _ h => h
                  case hfz16 => kernel_rfl
                  case hrz16 => kernel_rfl
                  case hwz16 => rfl
                  case hyz16 => (intro w hSw; (try dsimp only at hSw); go_simp; (try with_reducible rfl))
                  try simp only [Act.put, List.setIfInBounds_toArray, List.set_cons_zero, List.set_cons_succ]
                  refine' wpAnyH_take (i := 7) (oi := ?oiz17) (v := ?vz17) ?haz17 (by kernel_rfl) ?hfz17 ?hrz17 ?hQz17 (Or.inl ⟨?hwz17, ?hyz17⟩) (by assumption) ?restz17
                  case haz17 => (simp only [List.getElem?_toArray, List.getElem?_cons_succ, List.getElem?_cons_zero]; exact rfl)
                  case hQz17 => exact fun _ _ _ h => h
                  case hfz17 => kernel_rfl
                  case hrz17 => kernel_rfl
                  case hwz17 => rfl
                  case hyz17 => (intro w hSw; (try dsimp only at hSw); go_simp; (try with_reducible rfl))
                  try simp only [Act.put, List.setIfInBounds_toArray, List.set_cons_zero, List.set_cons_succ]
                  refine wpAnyH_ready (rs := [9]) (by kernel_rfl) (by simp) ?_
                  refine' AllReadyH.cons (o := ?oiz18) ?haz18 (fun K hK => ?stepz18) AllReadyH.nil
                  case haz18 => (simp only [List.getElem?_toArray, List.getElem?_cons_succ, List.getElem?_cons_zero]; exact rfl)
                  have hth : World.there _ (y2.heap.size) 0 8 := there_of OCT
                  have hni : ∀ {u xs}, OwnI _ wr.heap.size u xs → 0 < xs.length → vblk u ≠ y2.heap.size ∧ ¬ R (vblk u) := fun h h0 => ⟨fun e => Own.ne_of_type (by decide) h OCT _ (row_some (by have := h.ints.cap; omega)) e.symm, fun hr => by have h1 := HRB.out _ hr; have h2 := h.ge (k := 0) h0; rw [vat_block] at h2; omega⟩
                  have hcb : 0 < (bm 1 1 0).c.length → vblk C ≠ y2.heap.size ∧ ¬ R (vblk C) := fun _ => ⟨by omega, nC⟩
                  have hMB := MB.make (R := R) (x := 1) (u10 := C) (u11 := .slice none 0 0) BEL hge (Array.getElem?_eq_some_iff.1 OCT).1 hth OU00.ints OU01.ints (HCI.out.below BEL) (ints_nil _) (hni OU00) (hni OU01) hcb (fun h => absurd h (by decide))
                  rw [if_pos (by rfl)]
                  refine wp_store_mid 130 _ _ rfl (y2.heap.size) 0 (mcs 1 U00 U01 C (.slice none 0 0)).toArray rfl rfl hth (by kernel_rfl) (mcs_one sU00 sU01 sC isSl_nil) ?_
                  refine hK.out _ _ (keeps_cells hHeld hge 0 _) (fun hHeld => ?_)
                  clear hK K
                  try simp only [Act.put]
                  refine wpAnyH_done (by kernel_rfl) ?_ _
                  go_wp2_with fail
                  go_meet
                  case rel => exact ⟨_, _, _, _, _, rfl, hMB⟩
              case stepz28 =>
                go_simp
                obtain ⟨y7, hy7⟩ : ∃ y7, y7 = World.alloc (y1) (.cells #[.int .i64 0, .slice none 0 0, .int .i64 0, .slice none 0 0, .int .i64 0, .slice none 0 0, .int .i64 0, .slice none 0 0] 130) := ⟨_, rfl⟩
                rw [← hy7]
                have sb : Below (World.heap (y1)).size (y1) y7 := by rw [hy7]; exact (Below.refl _ _).alloc (Nat.le_refl _) _
                have hge : wr.heap.size ≤ y1.heap.size := BEL.size
                have LIT := LIT.below sb
                have BEL := Below.chain BEL sb
                have OCT : y7.heap[y1.heap.size]? = some (.cells #[.int .i64 0, .slice none 0 0, .int .i64 0, .slice none 0 0, .int .i64 0, .slice none 0 0, .int .i64 0, .slice none 0 0] 130 (0, 0)) := by rw [hy7]; exact heap_alloc_new _ _
                have hk := hHeld.below sb
                clear sb hy7
                refine hK.out _ _ (hk) (fun hHeld => ?_)
                clear hK K
                try simp only [Act.put, List.setIfInBounds_toArray, List.set_cons_zero, List.set_cons_succ]
                refine wpAnyH_ready (rs := [1]) (by kernel_rfl) (by simp) ?_
                refine' AllReadyH.cons (o := ?oiz26) ?haz26 (fun K hK => ?stepz26) AllReadyH.nil
                case haz26 => (simp only [List.getElem?_toArray, List.getElem?_cons_succ, List.getElem?_cons_zero]; exact rfl)
                go_simp
                refine (trim_calls 0 _ [1, -1] _ LIT (by simp) (by omega) (by omega)).mono ?_
                rintro e y8 ⟨U00, rfl, hU00, sb⟩
                have sU00 := hU00.isSl
                have OU00 := hU00.low (B' := wr.heap.size) BEL.size
                have LIT := LIT.below sb
                have OCT := (sb.block _ (Array.getElem?_eq_some_iff.1 OCT).1).trans OCT
                have BEL := Below.chain BEL sb
                have hk := hHeld.below sb
                clear sb hU00
                go_wp2_with fail
                refine hK.out _ _ (hk) (fun hHeld => ?_)
                clear hK K
                try simp only [Act.put, List.setIfInBounds_toArray, List.set_cons_zero, List.set_cons_succ]
                refine wpAnyH_ready (rs := [2]) (by kernel_rfl) (by simp) ?_
                refine' AllReadyH.cons (o := ?oiz25) ?haz25 (fun K hK => ?stepz25) AllReadyH.nil
                case haz25 => (simp only [List.getElem?_toArray, List.getElem?_cons_succ, List.getElem?_cons_zero]; exact rfl)
                go_simp
                refine (term_calls 1 1 _ (by omega) (by omega)).mono ?_
                rintro e y9 ⟨U01, rfl, hU01, sb⟩
                have sU01 := hU01.isSl
                have OU01 := hU01.low (B' := wr.heap.size) BEL.size
                have OU00 := OU00.below sb
                have OCT := (sb.block _ (Array.getElem?_eq_some_iff.1 OCT).1).trans OCT
                have BEL := Below.chain BEL sb
                have hk := hHeld.below sb
                clear sb hU01
                go_wp2_with fail
                refine hK.out _ _ (hk) (fun hHeld => ?_)
                clear hK K
                try simp only [Act.put, List.setIfInBounds_toArray, List.set_cons_zero, List.set_cons_succ]
                refine' wpAnyH_take (i := 3) (oi := ?oiz22) (v := ?vz22) ?haz22 (by kernel_rfl) ?hfz22 ?hrz22 ?hQz22 (Or.inl ⟨?hwz22, ?hyz22⟩) (by assumption) ?restz22
                case haz22 => (simp only [List.getElem?_toArray, List.getElem?_cons_succ, List.getElem?_cons_zero]; exact rfl)
                case hQz22 => exact fun _ _ _ h => h
                case hfz22 => kernel_rfl
                case hrz22 => kernel_rfl
                case hwz22 => rfl
                case hyz22 => (intro w hSw; (try dsimp only at hSw); go_simp; (try with_reducible rfl))
                try simp only [Act.put, List.setIfInBounds_toArray, List.set_cons_zero, List.set_cons_succ]
                refine' wpAnyH_take (i := 7) (oi := ?oiz23) (v := ?vz23) ?haz23 (by kernel_rfl) ?hfz23 ?hrz23 ?hQz23 (Or.inl ⟨?hwz23, ?hyz23⟩) (by assumption) ?restz23
                case haz23 => (simp only [List.getElem?_toArray, List.getElem?_cons_succ, List.getElem?_cons_zero]; exact rfl)
                case hQz23 => exact fun _ _ _ h => h
                case hfz23 => kernel_rfl
                case hrz23 => kernel_rfl
                case hwz23 => rfl
                case hyz23 => (intro w hSw; (try dsimp only at hSw); go_simp; (try with_reducible rfl))
                try simp only [Act.put, List.setIfInBounds_toArray, List.set_cons_zero, List.set_cons_succ]
                refine wpAnyH_ready (rs := [9]) (by kernel_rfl) (by simp) ?_
                refine' AllReadyH.cons (o := ?oiz24) ?haz24 (fun K hK => ?stepz24) AllReadyH.nil
                case haz24 => (simp only [List.getElem?_toArray, List.getElem?_cons_succ, List.getElem?_cons_zero]; exact rfl)
                have hth : World.there _ (y1.heap.size) 0 8 := there_of OCT
                have hni : ∀ {u xs}, OwnI _ wr.heap.size u xs → 0 < xs.length → vblk u ≠ y1.heap.size ∧ ¬ R (vblk u) := fun h h0 => ⟨fun e => Own.ne_of_type (by decide) h OCT _ (row_some (by have := h.ints.cap; omega)) e.symm, fun hr => by have h1 := HRB.out _ hr; have h2 := h.ge (k := 0) h0; rw [vat_block] at h2; omega⟩
                have hcb : 0 < (bm 1 1 0).c.length → vblk C ≠ y1.heap.size ∧ ¬ R (vblk C) := fun _ => ⟨by omega, nC⟩
                have hMB := MB.make (R := R) (x := 1) (u10 := C) (u11 := .slice none 0 0) BEL hge (Array.getElem?_eq_some_iff.1 OCT).1 hth OU00.ints OU01.ints (HCI.out.below BEL) (ints_nil _) (hni OU00) (hni OU01) hcb (fun h => absurd h (by decide))
                rw [if_pos (by rfl)]
                refine wp_store_mid 130 _ _ rfl (y1.heap.size) 0 (mcs 1 U00 U01 C (.slice none 0 0)).toArray rfl rfl hth (by kernel_rfl) (mcs_one sU00 sU01 sC isSl_nil) ?_
                refine hK.out _ _ (keeps_cells hHeld hge 0 _) (fun hHeld => ?_)
                clear hK K
                try simp only [Act.put]
                refine wpAnyH_done (by kernel_rfl) ?_ _
                go_wp2_with fail
                go_meet
                case rel => exact ⟨_, _, _, _, _, rfl, hMB⟩
            case stepz36 =>
              go_simp
              obtain ⟨y10, hy10⟩ : ∃ y10, y10 = World.alloc (y0) (.cells #[.int .i64 0, .slice none 0 0, .int .i64 0, .slice none 0 0, .int .i64 0, .slice none 0 0, .int .i64 0, .slice none 0 0] 130) := ⟨_, rfl⟩
              rw [← hy10]
              have sb : Below (World.heap (y0)).size (y0) y10 := by rw [hy10]; exact (Below.refl _ _).alloc (Nat.le_refl _) _
              have hge : wr.heap.size ≤ y0.heap.size := BEL.size
              have BEL := Below.chain BEL sb
              have OCT : y10.heap[y0.heap.size]? = some (.cells #[.int .i64 0, .slice none 0 0, .int .i64 0, .slice none 0 0, .int .i64 0, .slice none 0 0, .int .i64 0, .slice none 0 0] 130 (0, 0)) := by rw [hy10]; exact heap_alloc_new _ _
              have hk := hHeld.below sb
              clear sb hy10
              refine hK.out _ _ (hk) (fun hHeld => ?_)
              clear hK K
              try simp only [Act.put, List.setIfInBounds_toArray, List.set_cons_zero, List.set_cons_succ]
              refine wpAnyH_ready (rs := [0]) (by kernel_rfl) (by simp) ?_
              refine' AllReadyH.cons (o := ?oiz34) ?haz34 (fun K hK => ?stepz34) AllReadyH.nil
              case haz34 => (simp only [List.getElem?_toArray, List.getElem?_cons_zero]; exact rfl)
              go_simp
              obtain ⟨y11, hy11⟩ : ∃ y11, y11 = World.alloc (y10) (.cells #[.int .i64 1, .int .i64 (-1)] 3) := ⟨_, rfl⟩
              rw [← hy11]
              have sb : Below (World.heap (y10)).size (y10) y11 := by rw [hy11]; exact (Below.refl _ _).alloc (Nat.le_refl _) _
              have OCT := (sb.block _ (Array.getElem?_eq_some_iff.1 OCT).1).trans OCT
              have BEL := Below.chain BEL sb
              have LIT : Ints y11 (.slice (some ⟨y10.heap.size, 0, none⟩) 2 2) [1, -1] := by rw [hy11]; exact ints_lit [1, -1] (by simp) rfl rfl (by simp)
              have hk := hHeld.below sb
              clear sb hy11
              refine hK.out _ _ (hk) (fun hHeld => ?_)
              clear hK K
              try simp only [Act.put, List.setIfInBounds_toArray, List.set_cons_zero, List.set_cons_succ]
              refine wpAnyH_ready (rs := [1]) (by kernel_rfl) (by simp) ?_
              refine' AllReadyH.cons (o := ?oiz33) ?haz33 (fun K hK => ?stepz33) AllReadyH.nil
              case haz33 => (simp only [List.getElem?_toArray, List.getElem?_cons_succ, List.getElem?_cons_zero]; exact rfl)
              go_simp
              refine (trim_calls 0 _ [1, -1] _ LIT (by simp) (by omega) (by omega)).mono ?_
              rintro e y12 ⟨U00, rfl, hU00, sb⟩
              have sU00 := hU00.isSl
              have OU00 := hU00.low (B' := wr.heap.size) BEL.size
              have LIT := LIT.below sb
              have OCT := (sb.block _ (Array.getElem?_eq_some_iff.1 OCT).1).trans OCT
              have BEL := Below.chain BEL sb
              have hk := hHeld.below sb
              clear sb hU00
              go_wp2_with fail
              refine hK.out _ _ (hk) (fun hHeld => ?_)
              clear hK K
              try simp only [Act.put, List.setIfInBounds_toArray, List.set_cons_zero, List.set_cons_succ]
              refine wpAnyH_ready (rs := [2]) (by kernel_rfl) (by simp) ?_
              refine' AllReadyH.cons (o := ?oiz32) ?haz32 (fun K hK => ?stepz32) AllReadyH.nil
              case haz32 => (simp only [List.getElem?_toArray, List.getElem?_cons_succ, List.getElem?_cons_zero]; exact rfl)
              go_simp
              refine (term_calls 1 1 _ (by omega) (by omega)).mono ?_
              rintro e y13 ⟨U01, rfl, hU01, sb⟩
              have sU01 := hU01.isSl
              have OU01 := hU01.low (B' := wr.heap.size) BEL.size
              have OU00 := OU00.below sb
              have OCT := (sb.block _ (Array.getElem?_eq_some_iff.1 OCT).1).trans OCT
              have BEL := Below.chain BEL sb
              have hk := hHeld.below sb
              clear sb hU01
              go_wp2_with fail
              refine hK.out _ _ (hk) (fun hHeld => ?_)
              clear hK K
              try simp only [Act.put, List.setIfInBounds_toArray, List.set_cons_zero, List.set_cons_succ]
              refine' wpAnyH_take (i := 3) (oi := ?oiz29) (v := ?vz29) ?haz29 (by kernel_rfl) ?hfz29 ?hrz29 ?hQz29 (Or.inl ⟨?hwz29, ?hyz29⟩) (by assumption) ?restz29
              case haz29 => (simp only [List.getElem?_toArray, List.getElem?_cons_succ, List.getElem?_cons_zero]; exact rfl)
              case hQz29 => exact fun _ _ _ h => h
              case hfz29 => kernel_rfl
              case hrz29 => kernel_rfl
              case hwz29 => rfl
              case hyz29 => (intro w hSw; (try dsimp only at hSw); go_simp; (try with_reducible rfl))
              try simp only [Act.put, List.setIfInBounds_toArray, List.set_cons_zero, List.set_cons_succ]
              refine' wpAnyH_take (i := 7) (oi := ?oiz30) (v := ?vz30) ?haz30 (by kernel_rfl) ?hfz30 ?hrz30 ?hQz30 (Or.inl ⟨?hwz30, ?hyz30⟩) (by assumption) ?restz30
              case haz30 => (simp only [List.getElem?_toArray, List.getElem?_cons_succ, List.getElem?_cons_zero]; exact rfl)
              case hQz30 => exact fun _ _ _ h => h
              case hfz30 => kernel_rfl
              case hrz30 => kernel_rfl
              case hwz30 => rfl
              case hyz30 => (intro w hSw; (try dsimp only at hSw); go_simp; (try with_reducible rfl))
              try simp only [Act.put, List.setIfInBounds_toArray, List.set_cons_zero, List.set_cons_succ]
              refine wpAnyH_ready (rs := [9]) (by kernel_rfl) (by simp) ?_
              refine' AllReadyH.cons (o := ?oiz31) ?haz31 (fun K hK => ?stepz31) AllReadyH.nil
              case haz31 => (simp only [List.getElem?_toArray, List.getElem?_cons_succ, List.getElem?_cons_zero]; exact rfl)
              have hth : World.there _ (y0.heap.size) 0 8 := there_of OCT
              have hni : ∀ {u xs}, OwnI _ wr.heap.size u xs → 0 < xs.length → vblk u ≠ y0.heap.size ∧ ¬ R (vblk u) := fun h h0 => ⟨fun e => Own.ne_of_type (by decide) h OCT _ (row_some (by have := h.ints.cap; omega)) e.symm, fun hr => by have h1 := HRB.out _ hr; have h2 := h.ge (k := 0) h0; rw [vat_block] at h2; omega⟩
              have hcb : 0 < (bm 1 1 0).c.length → vblk C ≠ y0.heap.size ∧ ¬ R (vblk C) := fun _ => ⟨by omega, nC⟩
              have hMB := MB.make (R := R) (x := 1) (u10 := C) (u11 := .slice none 0 0) BEL hge (Array.getElem?_eq_some_iff.1 OCT).1 hth OU00.ints OU01.ints (HCI.out.below BEL) (ints_nil _) (hni OU00) (hni OU01) hcb (fun h => absurd h (by decide))
              rw [if_pos (by rfl)]
              refine wp_store_mid 130 _ _ rfl (y0.heap.size) 0 (mcs 1 U00 U01 C (.slice none 0 0)).toArray rfl rfl hth (by kernel_rfl) (mcs_one sU00 sU01 sC isSl_nil) ?_
              refine hK.out _ _ (keeps_cells hHeld hge 0 _) (fun hHeld => ?_)
              clear hK K
              try simp only [Act.put]
              refine wpAnyH_done (by kernel_rfl) ?_ _
              go_wp2_with fail
              go_meet
              case rel => exact ⟨_, _, _, _, _, rfl, hMB⟩
          case rest =>
            clear ck70 ck71 ck80 ck81
            obtain ⟨b, u00, u01, u10, u11, rfl, hMB⟩ := hcut
            have dk70 := cell_keep hMB.bel (HKE.out _ _ HK7.out n7); have dk71 := cell_keep hMB.bel (HKE.out _ _ HK71.out n7); have dk80 := cell_keep hMB.bel (HKE.out _ _ HK8.out n8); have dk81 := cell_keep hMB.bel (HKE.out _ _ HK81.out n8)
            have hCw : vblk C < wr.heap.size := HCI.out.blk_lt (by decide)
            go_upto_if 56 with (fail)
            go_cut [12] from 43 to 111 (fun s12 wd => ∃ b u00 u01 u10 u11, s12 = .pointer (some ⟨b, 0, none⟩) ∧ MB R wr wd b x u00 u01 u10 u11)
            case first =>
              have k71 := k70
              have k81 := k80
              by_cases hneg : x < 0
              · have hd : decide (x < 0) = true := decide_eq_true hneg
                go_upto_region 15 with (fail)
                refine wp_region_held_drew (S := Keeps wc (fun b => wr.heap.size ≤ b)) (by kernel_rfl) (Keeps.drew (Keeps.refl _ _)) (fun hHeld => ?_)
                have BEL : Below wc.heap.size wc wc.drew := (Below.refl _ _).drew
                obtain ⟨y0, hy0⟩ : ∃ y0, y0 = wc.drew := ⟨_, rfl⟩
                rw [← hy0] at hHeld BEL ⊢
                clear hy0
                refine' wpAnyH_take (i := 0) (oi := ?oiz37) (v := ?vz37) ?haz37 (by kernel_rfl) ?hfz37 ?hrz37 ?hQz37 (Or.inl ⟨?hwz37, ?hyz37⟩) (by assumption) ?restz37
                case haz37 => (simp only [List.getElem?_toArray, List.getElem?_cons_zero]; exact rfl)
                case hQz37 => exact fun _ _ _ h => h
                case hfz37 => kernel_rfl
                case hrz37 => kernel_rfl
                case hwz37 => rfl
                case hyz37 => (intro w hSw; (try dsimp only at hSw); have e0 := hSw _ _ dk70 k70; have e1 := hSw _ _ dk71 k71; have e2 := hSw _ _ dk80 k80; have e3 := hSw _ _ dk81 k81; go_simp; (try with_reducible rfl))
                try simp only [Act.put, List.setIfInBounds_toArray, List.set_cons_zero, List.set_cons_succ]
                refine' wpAnyH_take (i := 1) (oi := ?oiz38) (v := ?vz38) ?haz38 (by kernel_rfl) ?hfz38 ?hrz38 ?hQz38 (Or.inl ⟨?hwz38, ?hyz38⟩) (by assumption) ?restz38
                case haz38 => (simp only [List.getElem?_toArray, List.getElem?_cons_succ, List.getElem?_cons_zero]; exact rfl)
                case hQz38 => exact fun _ _ _ h => h
                case hfz38 => kernel_rfl
                case hrz38 => kernel_rfl
                case hwz38 => rfl
                case hyz38 => (intro w hSw; (try dsimp only at hSw); have e0 := hSw _ _ dk70 k70; have e1 := hSw _ _ dk71 k71; have e2 := hSw _ _ dk80 k80; have e3 := hSw _ _ dk81 k81; go_simp; (try with_reducible rfl))
                try simp only [Act.put, List.setIfInBounds_toArray, List.set_cons_zero, List.set_cons_succ]
                refine' wpAnyH_take (i := 2) (oi := ?oiz39) (v := ?vz39) ?haz39 (by kernel_rfl) ?hfz39 ?hrz39 ?hQz39 (Or.inl ⟨?hwz39, ?hyz39⟩) (by assumption) ?restz39
                case haz39 => (simp only [List.getElem?_toArray, List.getElem?_cons_succ, List.getElem?_cons_zero]; exact rfl)
                case hQz39 => exact fun _ _ _ h => h
                case hfz39 => kernel_rfl
                case hrz39 => kernel_rfl
                case hwz39 => rfl
                case hyz39 => (intro w hSw; (try dsimp only at hSw); have e0 := hSw _ _ dk70 k70; have e1 := hSw _ _ dk71 k71; have e2 := hSw _ _ dk80 k80; have e3 := hSw _ _ dk81 k81; go_simp; (try with_reducible rfl))
                try simp only [Act.put, List.setIfInBounds_toArray, List.set_cons_zero, List.set_cons_succ]
                refine wpAnyH_ready (rs := [3, 4]) (by kernel_rfl) (by simp) ?_
                refine' AllReadyH.cons (o := ?oiz50) ?haz50 (fun K hK => ?stepz50) (AllReadyH.cons (o := ?oiz51) ?haz51 (fun K hK => ?stepz51) AllReadyH.nil)
                case haz50 => (simp only [List.getElem?_toArray, List.getElem?_cons_succ, List.getElem?_cons_zero]; exact rfl)
                case haz51 => (simp only [List.getElem?_toArray, List.getElem?_cons_succ, List.getElem?_cons_zero]; exact rfl)
                case stepz50 =>
                  go_simp
                  refine (term_calls 1 (-1) _ (by omega) (by omega)).mono ?_
                  rintro e y1 ⟨U10, rfl, hU10, sb⟩
                  have sU10 := hU10.isSl
                  have OU10 := hU10.low (B' := wc.heap.size) BEL.size
                  have BEL := Below.chain BEL sb
                  have hk := hHeld.below sb
                  clear sb hU10
                  go_wp2_with fail
                  refine hK.out _ _ (hk) (fun hHeld => ?_)
                  clear hK K
                  try simp only [Act.put, List.setIfInBounds_toArray, List.set_cons_zero, List.set_cons_succ]
                  refine wpAnyH_ready (rs := [4]) (by kernel_rfl) (by simp) ?_
                  refine' AllReadyH.cons (o := ?oiz44) ?haz44 (fun K hK => ?stepz44) AllReadyH.nil
                  case haz44 => (simp only [List.getElem?_toArray, List.getElem?_cons_succ, List.getElem?_cons_zero]; exact rfl)
                  go_simp
                  obtain ⟨y2, hy2⟩ : ∃ y2, y2 = World.alloc (y1) (.cells #[.int .i64 (-1), .int .i64 1] 3) := ⟨_, rfl⟩
                  rw [← hy2]
                  have sb : Below (World.heap (y1)).size (y1) y2 := by rw [hy2]; exact (Below.refl _ _).alloc (Nat.le_refl _) _
                  have OU10 := OU10.below sb
                  have BEL := Below.chain BEL sb
                  have LIT : Ints y2 (.slice (some ⟨y1.heap.size, 0, none⟩) 2 2) [-1, 1] := by rw [hy2]; exact ints_lit [-1, 1] (by simp) rfl rfl (by simp)
                  have hk := hHeld.below sb
                  clear sb hy2
                  refine hK.out _ _ (hk) (fun hHeld => ?_)
                  clear hK K
                  try simp only [Act.put, List.setIfInBounds_toArray, List.set_cons_zero, List.set_cons_succ]
                  refine wpAnyH_ready (rs := [5]) (by kernel_rfl) (by simp) ?_
                  refine' AllReadyH.cons (o := ?oiz43) ?haz43 (fun K hK => ?stepz43) AllReadyH.nil
                  case haz43 => (simp only [List.getElem?_toArray, List.getElem?_cons_succ, List.getElem?_cons_zero]; exact rfl)
                  go_simp
                  refine (trim_calls (-1) _ [-1, 1] _ LIT (by simp) (by omega) (by omega)).mono ?_
                  rintro e y3 ⟨U11, rfl, hU11, sb⟩
                  have sU11 := hU11.isSl
                  have OU11 := hU11.low (B' := wc.heap.size) BEL.size
                  have OU10 := OU10.below sb
                  have LIT := LIT.below sb
                  have BEL := Below.chain BEL sb
                  have hk := hHeld.below sb
                  clear sb hU11
                  go_wp2_with fail
                  refine hK.out _ _ (hk) (fun hHeld => ?_)
                  clear hK K
                  try simp only [Act.put, List.setIfInBounds_toArray, List.set_cons_zero, List.set_cons_succ]
                  refine' wpAnyH_take (i := 6) (oi := ?oiz40) (v := ?vz40) ?haz40 (by kernel_rfl) ?hfz40 ?hrz40 ?hQz40 (Or.inl ⟨?hwz40, ?hyz40⟩) (by assumption) ?restz40
                  case haz40 => (simp only [List.getElem?_toArray, List.getElem?_cons_succ, List.getElem?_cons_zero]; exact rfl)
                  case hQz40 => exact fun _ _ _ h => h
                  case hfz40 => kernel_rfl
                  case hrz40 => kernel_rfl
                  case hwz40 => rfl
                  case hyz40 => (intro w hSw; (try dsimp only at hSw); go_simp; (try with_reducible rfl))
                  try simp only [Act.put, List.setIfInBounds_toArray, List.set_cons_zero, List.set_cons_succ]
                  refine' wpAnyH_take (i := 7) (oi := ?oiz41) (v := ?vz41) ?haz41 (by kernel_rfl) ?hfz41 ?hrz41 ?hQz41 (Or.inl ⟨?hwz41, ?hyz41⟩) (by assumption) ?restz41
                  case haz41 => (simp only [List.getElem?_toArray, List.getElem?_cons_succ, List.getElem?_cons_zero]; exact rfl)
                  case hQz41 => exact fun _ _ _ h => h
                  case hfz41 => kernel_rfl
                  case hrz41 => kernel_rfl
                  case hwz41 => rfl
                  case hyz41 => (intro w hSw; (try dsimp only at hSw); go_simp; (try with_reducible rfl))
                  try simp only [Act.put, List.setIfInBounds_toArray, List.set_cons_zero, List.set_cons_succ]
                  refine wpAnyH_ready (rs := [8]) (by kernel_rfl) (by simp) ?_
                  refine' AllReadyH.cons (o := ?oiz42) ?haz42 (fun K hK => ?stepz42) AllReadyH.nil
                  case haz42 => (simp only [List.getElem?_toArray, List.getElem?_cons_succ, List.getElem?_cons_zero]; exact rfl)
                  have hth : World.there _ b 0 8 := there_below hMB.th BEL
                  have hbl := hMB.bel.trans (BEL.mono hMB.bel.size)
                  have hbc := hMB.lt
                  have hsc := BEL.size
                  have hbg := hMB.ge
                  have h10 : 0 < (bm (-1) 1 0).c.length → vblk U10 ≠ b ∧ ¬ R (vblk U10) := fun h0 => by rw [bm_n10] at h0; have h2 := OU10.ge (k := 0) h0; rw [vat_block] at h2; exact ⟨by omega, fun hr => by have h1 := HRB.out _ hr; have h3 := hMB.bel.size; omega⟩
                  have h11 : 0 < (bm (-1) 1 1).c.length → vblk U11 ≠ b ∧ ¬ R (vblk U11) := fun h0 => by rw [bm_n11] at h0; have h2 := OU11.ge (k := 0) h0; rw [vat_block] at h2; exact ⟨by omega, fun hr => by have h1 := HRB.out _ hr; have h3 := hMB.bel.size; omega⟩
                  have hMB' := MB.make (R := R) (x := -1) (u00 := .slice none 0 0) (u01 := C) hbl hMB.ge (by omega) hth (by rw [bm_n00]; exact ints_nil _) (by rw [bm_n01]; exact HCI.out.below hbl) (by rw [bm_n10]; exact OU10.ints) (by rw [bm_n11]; exact OU11.ints) (fun h => by rw [bm_n00] at h; exact absurd h (by decide)) (fun _ => ⟨by omega, nC⟩) h10 h11
                  have hone := mcs_one (x := -1) isSl_nil sC sU10 sU11
                  rw [mcs_n] at hMB' hone
                  rw [if_pos (by rfl)]
                  refine wp_store_mid 130 _ _ rfl b 0 _ rfl rfl hth (by kernel_rfl) hone ?_
                  refine hK.out _ _ (keeps_cells hHeld hMB.ge 0 _) (fun hHeld => ?_)
                  clear hK K
                  try simp only [Act.put]
                  refine wpAnyH_done (by kernel_rfl) ?_ _
                  go_wp2_with fail
                  go_meet
                  case rel => exact ⟨_, _, _, _, _, rfl, hMB'.same (by omega)⟩
                case stepz51 =>
                  go_simp
                  obtain ⟨y4, hy4⟩ : ∃ y4, y4 = World.alloc (y0) (.cells #[.int .i64 (-1), .int .i64 1] 3) := ⟨_, rfl⟩
                  rw [← hy4]
                  have sb : Below (World.heap (y0)).size (y0) y4 := by rw [hy4]; exact (Below.refl _ _).alloc (Nat.le_refl _) _
                  have BEL := Below.chain BEL sb
                  have LIT : Ints y4 (.slice (some ⟨y0.heap.size, 0, none⟩) 2 2) [-1, 1] := by rw [hy4]; exact ints_lit [-1, 1] (by simp) rfl rfl (by simp)
                  have hk := hHeld.below sb
                  clear sb hy4
                  refine hK.out _ _ (hk) (fun hHeld => ?_)
                  clear hK K
                  try simp only [Act.put, List.setIfInBounds_toArray, List.set_cons_zero, List.set_cons_succ]
                  refine wpAnyH_ready (rs := [3]) (by kernel_rfl) (by simp) ?_
                  refine' AllReadyH.cons (o := ?oiz49) ?haz49 (fun K hK => ?stepz49) AllReadyH.nil
                  case haz49 => (simp only [List.getElem?_toArray, List.getElem?_cons_succ, List.getElem?_cons_zero]; exact rfl)
                  go_simp
                  refine (term_calls 1 (-1) _ (by omega) (by omega)).mono ?_
                  rintro e y5 ⟨U10, rfl, hU10, sb⟩
                  have sU10 := hU10.isSl
                  have OU10 := hU10.low (B' := wc.heap.size) BEL.size
                  have LIT := LIT.below sb
                  have BEL := Below.chain BEL sb
                  have hk := hHeld.below sb
                  clear sb hU10
                  go_wp2_with fail
                  refine hK.out _ _ (hk) (fun hHeld => ?_)
                  clear hK K
                  try simp only [Act.put, List.setIfInBounds_toArray, List.set_cons_zero, List.set_cons_succ]
                  refine wpAnyH_ready (rs := [5]) (by kernel_rfl) (by simp) ?_
                  refine' AllReadyH.cons (o := ?oiz48) ?haz48 (fun K hK => ?stepz48) AllReadyH.nil
                  case haz48 => (simp only [List.getElem?_toArray, List.getElem?_cons_succ, List.getElem?_cons_zero]; exact rfl)
                  go_simp
                  refine (trim_calls (-1) _ [-1, 1] _ LIT (by simp) (by omega) (by omega)).mono ?_
                  rintro e y6 ⟨U11, rfl, hU11, sb⟩
                  have sU11 := hU11.isSl
                  have OU11 := hU11.low (B' := wc.heap.size) BEL.size
                  have LIT := LIT.below sb
                  have OU10 := OU10.below sb
                  have BEL := Below.chain BEL sb
                  have hk := hHeld.below sb
                  clear sb hU11
                  go_wp2_with fail
                  refine hK.out _ _ (hk) (fun hHeld => ?_)
                  clear hK K
                  try simp only [Act.put, List.setIfInBounds_toArray, List.set_cons_zero, List.set_cons_succ]
                  refine' wpAnyH_take (i := 6) (oi := ?oiz45) (v := ?vz45) ?haz45 (by kernel_rfl) ?hfz45 ?hrz45 ?hQz45 (Or.inl ⟨?hwz45, ?hyz45⟩) (by assumption) ?restz45
                  case haz45 => (simp only [List.getElem?_toArray, List.getElem?_cons_succ, List.getElem?_cons_zero]; exact rfl)
                  case hQz45 => exact fun _ _ _ h => h
                  case hfz45 => kernel_rfl
                  case hrz45 => kernel_rfl
                  case hwz45 => rfl
                  case hyz45 => (intro w hSw; (try dsimp only at hSw); go_simp; (try with_reducible rfl))
                  try simp only [Act.put, List.setIfInBounds_toArray, List.set_cons_zero, List.set_cons_succ]
                  refine' wpAnyH_take (i := 7) (oi := ?oiz46) (v := ?vz46) ?haz46 (by kernel_rfl) ?hfz46 ?hrz46 ?hQz46 (Or.inl ⟨?hwz46, ?hyz46⟩) (by assumption) ?restz46
                  case haz46 => (simp only [List.getElem?_toArray, List.getElem?_cons_succ, List.getElem?_cons_zero]; exact rfl)
                  case hQz46 => exact fun _ _ _ h => h
                  case hfz46 => kernel_rfl
                  case hrz46 => kernel_rfl
                  case hwz46 => rfl
                  case hyz46 => (intro w hSw; (try dsimp only at hSw); go_simp; (try with_reducible rfl))
                  try simp only [Act.put, List.setIfInBounds_toArray, List.set_cons_zero, List.set_cons_succ]
                  refine wpAnyH_ready (rs := [8]) (by kernel_rfl) (by simp) ?_
                  refine' AllReadyH.cons (o := ?oiz47) ?haz47 (fun K hK => ?stepz47) AllReadyH.nil
                  case haz47 => (simp only [List.getElem?_toArray, List.getElem?_cons_succ, List.getElem?_cons_zero]; exact rfl)
                  have hth : World.there _ b 0 8 := there_below hMB.th BEL
                  have hbl := hMB.bel.trans (BEL.mono hMB.bel.size)
                  have hbc := hMB.lt
                  have hsc := BEL.size
                  have hbg := hMB.ge
                  have h10 : 0 < (bm (-1) 1 0).c.length → vblk U10 ≠ b ∧ ¬ R (vblk U10) := fun h0 => by rw [bm_n10] at h0; have h2 := OU10.ge (k := 0) h0; rw [vat_block] at h2; exact ⟨by omega, fun hr => by have h1 := HRB.out _ hr; have h3 := hMB.bel.size; omega⟩
                  have h11 : 0 < (bm (-1) 1 1).c.length → vblk U11 ≠ b ∧ ¬ R (vblk U11) := fun h0 => by rw [bm_n11] at h0; have h2 := OU11.ge (k := 0) h0; rw [vat_block] at h2; exact ⟨by omega, fun hr => by have h1 := HRB.out _ hr; have h3 := hMB.bel.size; omega⟩
                  have hMB' := MB.make (R := R) (x := -1) (u00 := .slice none 0 0) (u01 := C) hbl hMB.ge (by omega) hth (by rw [bm_n00]; exact ints_nil _) (by rw [bm_n01]; exact HCI.out.below hbl) (by rw [bm_n10]; exact OU10.ints) (by rw [bm_n11]; exact OU11.ints) (fun h => by rw [bm_n00] at h; exact absurd h (by decide)) (fun _ => ⟨by omega, nC⟩) h10 h11
                  have hone := mcs_one (x := -1) isSl_nil sC sU10 sU11
                  rw [mcs_n] at hMB' hone
                  rw [if_pos (by rfl)]
                  refine wp_store_mid 130 _ _ rfl b 0 _ rfl rfl hth (by kernel_rfl) hone ?_
                  refine hK.out _ _ (keeps_cells hHeld hMB.ge 0 _) (fun hHeld => ?_)
                  clear hK K
                  try simp only [Act.put]
                  refine wpAnyH_done (by kernel_rfl) ?_ _
                  go_wp2_with fail
                  go_meet
                  case rel => exact ⟨_, _, _, _, _, rfl, hMB'.same (by omega)⟩
              · have hd : decide (x < 0) = false := decide_eq_false hneg
                go_wp2_with fail
                go_meet
                case rel => exact ⟨_, _, _, _, _, rfl, hMB.same (by omega)⟩
            case rest =>
              clear dk70 dk71 dk80 dk81 hMB
              obtain ⟨b, u00, u01, u10, u11, rfl, hMB⟩ := hcut
              have hwc := hMB.bel.size
              have HRc := Lib.hid hMB.bel
              have HMB := Lib.hid hMB
              obtain ⟨M, hM⟩ : ∃ M, burauM n (xs.take m) = M := ⟨_, rfl⟩
              have hml : M.length = n := by rw [← hM]; exact burauM_length _ _
              have hmrow : ∀ r, r < n → nthm M r = rowM n (xs.take m) r := fun r hr => by rw [← hM]; exact nthm_burauM _ _ hr
              have hpm0 := HPM.out.below hMB.bel
              have hbb0 := HBB.out.trans (hMB.bel.mono HBB.out.size)
              rw [hM] at hpm0
              have HPM0 := Lib.hid hpm0; have HBB0 := Lib.hid hbb0; have HHM := Lib.hid hM; have HROW := Lib.hid hmrow; have HML := Lib.hid hml
              clear hMB hM hpm0 hbb0 hmrow hml
              go_wp2_with fail
              go_loopw [66] (fun i wz => ∃ r : Nat, r ≤ n ∧ i = .int .i64 r ∧ PMat wz w.heap.size out vs ((M.take r).map (brow x) ++ M.drop r) ∧ Below w.heap.size w wz ∧ Keeps wc R wz ∧ wc.heap.size ≤ wz.heap.size) (fun i _ => n - (intOf i).toNat)
              case atStart => exact ⟨0, Nat.zero_le _, rfl, HPM0.out, HBB0.out, Keeps.refl _ _, Nat.le_refl _⟩
              case round =>
                obtain ⟨wz, rfl⟩ : ∃ wz, wz = wr := ⟨_, rfl⟩
                obtain ⟨r, hr, rfl, hpz, hbz, hkz, hsz⟩ := hrel
                by_cases hrn : r < n
                · obtain ⟨M', hM'⟩ : ∃ M', (M.take r).map (brow x) ++ M.drop r = M' := ⟨_, rfl⟩
                  rw [hM'] at hpz
                  have hml' : M'.length = n := by rw [← hM']; have := HML.out; simp; omega
                  have hrow' : nthm M' r = nthm M r := by
                    rw [← hM']
                    have := HML.out
                    rw [nthm_lt (by simp; omega), nthm_lt (by omega), List.getElem_append_right (by simp; omega)]
                    simp [List.getElem_drop]
                    congr 1; omega
                  have hrl : (nthm M' r).length = n := by rw [hrow', HROW.out r hrn, rowM_length]
                  obtain ⟨us, hR1⟩ := hpz.row r (by omega)
                  have co := hpz.cell (i := r) (by omega)
                  have rl := hR1.isSl
                  have rv := hR1.vlen
                  rw [hrl] at rv
                  obtain ⟨row, hrw⟩ : ∃ row, nthv vs r = row := ⟨_, rfl⟩
                  rw [hrw] at co hR1 rl rv
                  have ca0 := hR1.read.low (j := p) (by omega)
                  have ca1 := hR1.read.c (j := p) (by omega)
                  have cb0 := hR1.read.low (j := p + 1) (by omega)
                  have cb1 := hR1.read.c (j := p + 1) (by omega)
                  have sa := (hR1.each p (by omega)).isSl
                  have sb := (hR1.each (p + 1) (by omega)).isSl
                  have q1 : IntKind.i64.wrap ((p : Int) + 1 - 1) = (p : Int) := by rw [show (p : Int) + 1 - 1 = p by omega]; exact IntWalk.i64_in _ ⟨by omega, by omega⟩
                  have q1' : IntKind.i64.wrap (p : Int) = (p : Int) := IntWalk.i64_in _ ⟨by omega, by omega⟩
                  have q1'' : IntKind.i64.wrap ((p : Int) + 1) = (p : Int) + 1 := IntWalk.i64_in _ ⟨by omega, by omega⟩
                  have q2 : ((p : Int) + 1).toNat = p + 1 := by omega
                  have q3 : (p : Int) < (n : Int) := by omega
                  have q4 : (0 : Int) ≤ (p : Int) := by omega
                  have q5 : (p : Int) + 1 < (n : Int) := by omega
                  have q6 : (0 : Int) ≤ (p : Int) + 1 := by omega
                  have HPZ := Lib.hid hpz; have HBZ := Lib.hid hbz; have HKZ := Lib.hid hkz; have HR1 := Lib.hid hR1
                  have HM' := Lib.hid hM'; have HML' := Lib.hid hml'; have HROW' := Lib.hid hrow'; have HRL := Lib.hid hrl; have HRW := Lib.hid hrw
                  clear hpz hbz hkz hR1 hM' hml' hrow' hrl hrw
                  have hmb := HMB.out
                  have nRb : ¬ R b := fun hr => by have := HRB.out _ hr; have := hmb.ge; omega
                  have mz : ∀ j u, (mcs x u00 u01 u10 u11)[j]? = some u → wz.cell? ⟨b, 0 + j, none⟩ = some u := fun j u h => HKZ.out _ _ (hmb.at_ j u h) nRb
                  have m0 : wz.cell? ⟨b, 0, none⟩ = some (.int .i64 (bm x 0 0).low) := mz 0 _ rfl
                  have m1 : wz.cell? ⟨b, 1, none⟩ = some u00 := mz 1 _ rfl
                  have m2 : wz.cell? ⟨b, 2, none⟩ = some (.int .i64 (bm x 0 1).low) := mz 2 _ rfl
                  have m3 : wz.cell? ⟨b, 3, none⟩ = some u01 := mz 3 _ rfl
                  have m4 : wz.cell? ⟨b, 4, none⟩ = some (.int .i64 (bm x 1 0).low) := mz 4 _ rfl
                  have m5 : wz.cell? ⟨b, 5, none⟩ = some u10 := mz 5 _ rfl
                  have m6 : wz.cell? ⟨b, 6, none⟩ = some (.int .i64 (bm x 1 1).low) := mz 6 _ rfl
                  have m7 : wz.cell? ⟨b, 7, none⟩ = some u11 := mz 7 _ rfl
                  have I00 := HKZ.out.ints hmb.i00 (fun h => (hmb.n00 h).2)
                  have I01 := HKZ.out.ints hmb.i01 (fun h => (hmb.n01 h).2)
                  have I10 := HKZ.out.ints hmb.i10 (fun h => (hmb.n10 h).2)
                  have I11 := HKZ.out.ints hmb.i11 (fun h => (hmb.n11 h).2)
                  have N00 := Lib.hid (fun h => (hmb.n00 h).2); have N01 := Lib.hid (fun h => (hmb.n01 h).2); have N10 := Lib.hid (fun h => (hmb.n10 h).2); have N11 := Lib.hid (fun h => (hmb.n11 h).2)
                  have hnr : ∀ {u xs}, OwnI wz w.heap.size u xs → 0 < xs.length → ¬ R (vblk u) := by
                    intro u' xs' ho h0 hR'
                    rw [HHR.out] at hR'
                    obtain ⟨i, hi, e⟩ := hR'
                    have hi' : i < M'.length := by rw [HML'.out]; exact hi
                    obtain ⟨us', hri⟩ := HPZ.out.row i hi'
                    obtain ⟨cur, hcur⟩ := hri.obj (HPZ.out.pos i hi')
                    exact Own.ne_of_type (Ne.symm poly_ne_int) ho hcur _ (row_some (by have := ho.ints.cap; omega)) e.symm
                  have hpn : p < (nthm M' r).length := by rw [HRL.out]; omega
                  have hpn1 : p + 1 < (nthm M' r).length := by rw [HRL.out]; omega
                  have hea := HR1.out.each p hpn
                  have heb := HR1.out.each (p + 1) hpn1
                  have NA := Lib.hid (hnr hea); have NB := Lib.hid (hnr heb)
                  have hws : NWord n (xs.take m) := fun y hy => HX.out y (List.mem_of_mem_take hy)
                  have hla : (xs.take m).length ≤ 20 := by simp; omega
                  have HSA : Hid (PB (nthp (nthm M' r) p) (-20) 21 1099511627776 1099511627776) := Lib.hid (by rw [HROW'.out, HROW.out r hrn]; exact entry_sm hws hla r (by omega))
                  have HSB : Hid (PB (nthp (nthm M' r) (p + 1)) (-20) 21 1099511627776 1099511627776) := Lib.hid (by rw [HROW'.out, HROW.out r hrn]; exact entry_sm hws hla r (by omega))
                  obtain ⟨A, hA⟩ : ∃ A, nthp (nthm M' r) p = A := ⟨_, rfl⟩
                  obtain ⟨B, hB⟩ : ∃ B, nthp (nthm M' r) (p + 1) = B := ⟨_, rfl⟩
                  obtain ⟨ua, hua⟩ : ∃ ua, nthv us p = ua := ⟨_, rfl⟩
                  obtain ⟨ub, hub⟩ : ∃ ub, nthv us (p + 1) = ub := ⟨_, rfl⟩
                  rw [hA] at HSA NA hea ca0
                  rw [hB] at HSB NB heb cb0
                  rw [hua] at NA hea ca1 sa
                  rw [hub] at NB heb cb1 sb
                  have HIA := Lib.hid hea.ints; have HIB := Lib.hid heb.ints
                  have HHA := Lib.hid hA; have HHB := Lib.hid hB
                  have nco : ¬ wz.heap.size ≤ (vat out r).block := by have := World.block_lt_of_cell? _ _ co; omega
                  have nca : ¬ wz.heap.size ≤ vblk row := by have := World.block_lt_of_cell? _ _ ca0; rw [vat_block] at this; omega
                  have hRr : R (vblk row) := by rw [← HRW.out]; exact HRI.out r hrn
                  have hno : (vat out r).block ≠ vblk row := by
                    obtain ⟨cur, hcur⟩ := HR1.out.obj (by omega)
                    have := Own.ne_of_type rows_ne_poly HPZ.out.own hcur _ (row_some (HPZ.out.own.cap_of (j := r) (by omega)))
                    rw [vat_block]; exact Ne.symm this
                  have hRo : ¬ R (vat out r).block := by
                    intro hR'
                    rw [HHR.out] at hR'
                    obtain ⟨i, hi, e⟩ := hR'
                    have hi' : i < M'.length := by rw [HML'.out]; exact hi
                    obtain ⟨us', hri⟩ := HPZ.out.row i hi'
                    obtain ⟨cur, hcur⟩ := hri.obj (HPZ.out.pos i hi')
                    exact Own.ne_of_type rows_ne_poly HPZ.out.own hcur _ (row_some (HPZ.out.own.cap_of (j := r) (by omega))) (by rw [← e]; rfl)
                  have HCO := Lib.hid co
                  have hsz6 : w4.heap.size < wz.heap.size := by omega
                  have HM0 := Lib.hid m0; have HM1 := Lib.hid m1; have HM2 := Lib.hid m2; have HM3 := Lib.hid m3; have HM4 := Lib.hid m4; have HM5 := Lib.hid m5; have HM6 := Lib.hid m6; have HM7 := Lib.hid m7
                  have HI00 := Lib.hid I00; have HI01 := Lib.hid I01; have HI10 := Lib.hid I10; have HI11 := Lib.hid I11
                  have su00 := I00.isSl; have su01 := I01.isSl; have su10 := I10.isSl; have su11 := I11.isSl
                  clear hmb mz m0 m1 m2 m3 m4 m5 m6 m7 I00 I01 I10 I11 hnr hea heb hws hla hA hB hua hub
                  go_upto_region 19 with (fail)
                  go_cut [14, 15] from 69 to 83 (fun s14 s15 wc => ∃ ba bb, s14 = .pointer (some ⟨ba, 0, none⟩) ∧ s15 = .pointer (some ⟨bb, 0, none⟩) ∧ Pair wc ba 40 (.int .i64 A.low) ua ∧ Pair wc bb 40 (.int .i64 B.low) ub ∧ Below wz.heap.size wz wc ∧ wz.heap.size ≤ ba ∧ wz.heap.size ≤ bb)
                  case first =>
                      refine wp_region_held_drew (S := Keeps wz (fun b => wz.heap.size ≤ b)) (by kernel_rfl) (Keeps.drew (Keeps.refl _ _)) (fun hHeld => ?_)
                      have BEL : Below wz.heap.size wz wz.drew := (Below.refl _ _).drew
                      obtain ⟨y0, hy0⟩ : ∃ y0, y0 = wz.drew := ⟨_, rfl⟩
                      rw [← hy0] at hHeld BEL ⊢
                      clear hy0
                      refine' wpAnyH_take (i := 0) (oi := ?oiz52) (v := ?vz52) ?haz52 (by kernel_rfl) ?hfz52 ?hrz52 ?hQz52 (Or.inl ⟨?hwz52, ?hyz52⟩) (by assumption) ?restz52
                      case haz52 => (simp only [List.getElem?_toArray, List.getElem?_cons_zero]; exact rfl)
                      case hQz52 => exact fun _ _ _ h => h
                      case hfz52 => kernel_rfl
                      case hrz52 => kernel_rfl
                      case hwz52 => rfl
                      case hyz52 => (intro w hSw; (try dsimp only at hSw); have e0 := hSw _ _ co nco; have e1 := hSw _ _ ca0 nca; have e2 := hSw _ _ ca1 nca; have e3 := hSw _ _ cb0 nca; have e4 := hSw _ _ cb1 nca; go_simp; (try with_reducible rfl))
                      try simp only [Act.put, List.setIfInBounds_toArray, List.set_cons_zero, List.set_cons_succ]
                      refine' wpAnyH_take (i := 1) (oi := ?oiz53) (v := ?vz53) ?haz53 (by kernel_rfl) ?hfz53 ?hrz53 ?hQz53 (Or.inl ⟨?hwz53, ?hyz53⟩) (by assumption) ?restz53
                      case haz53 => (simp only [List.getElem?_toArray, List.getElem?_cons_succ, List.getElem?_cons_zero]; exact rfl)
                      case hQz53 => exact fun _ _ _ h => h
                      case hfz53 => kernel_rfl
                      case hrz53 => kernel_rfl
                      case hwz53 => rfl
                      case hyz53 => (intro w hSw; (try dsimp only at hSw); have e0 := hSw _ _ co nco; have e1 := hSw _ _ ca0 nca; have e2 := hSw _ _ ca1 nca; have e3 := hSw _ _ cb0 nca; have e4 := hSw _ _ cb1 nca; go_simp; (try with_reducible rfl))
                      try simp only [Act.put, List.setIfInBounds_toArray, List.set_cons_zero, List.set_cons_succ]
                      refine' wpAnyH_take (i := 2) (oi := ?oiz54) (v := ?vz54) ?haz54 (by kernel_rfl) ?hfz54 ?hrz54 ?hQz54 (Or.inl ⟨?hwz54, ?hyz54⟩) (by assumption) ?restz54
                      case haz54 => (simp only [List.getElem?_toArray, List.getElem?_cons_succ, List.getElem?_cons_zero]; exact rfl)
                      case hQz54 => exact fun _ _ _ h => h
                      case hfz54 => kernel_rfl
                      case hrz54 => kernel_rfl
                      case hwz54 => rfl
                      case hyz54 => (intro w hSw; (try dsimp only at hSw); have e0 := hSw _ _ co nco; have e1 := hSw _ _ ca0 nca; have e2 := hSw _ _ ca1 nca; have e3 := hSw _ _ cb0 nca; have e4 := hSw _ _ cb1 nca; go_simp; (try with_reducible rfl))
                      try simp only [Act.put, List.setIfInBounds_toArray, List.set_cons_zero, List.set_cons_succ]
                      refine' wpAnyH_take (i := 3) (oi := ?oiz55) (v := ?vz55) ?haz55 (by kernel_rfl) ?hfz55 ?hrz55 ?hQz55 (Or.inl ⟨?hwz55, ?hyz55⟩) (by assumption) ?restz55
                      case haz55 => (simp only [List.getElem?_toArray, List.getElem?_cons_succ, List.getElem?_cons_zero]; exact rfl)
                      case hQz55 => exact fun _ _ _ h => h
                      case hfz55 => kernel_rfl
                      case hrz55 => kernel_rfl
                      case hwz55 => rfl
                      case hyz55 => (intro w hSw; (try dsimp only at hSw); have e0 := hSw _ _ co nco; have e1 := hSw _ _ ca0 nca; have e2 := hSw _ _ ca1 nca; have e3 := hSw _ _ cb0 nca; have e4 := hSw _ _ cb1 nca; go_simp; (try with_reducible rfl))
                      try simp only [Act.put, List.setIfInBounds_toArray, List.set_cons_zero, List.set_cons_succ]
                      refine' wpAnyH_take (i := 4) (oi := ?oiz56) (v := ?vz56) ?haz56 (by kernel_rfl) ?hfz56 ?hrz56 ?hQz56 (Or.inl ⟨?hwz56, ?hyz56⟩) (by assumption) ?restz56
                      case haz56 => (simp only [List.getElem?_toArray, List.getElem?_cons_succ, List.getElem?_cons_zero]; exact rfl)
                      case hQz56 => exact fun _ _ _ h => h
                      case hfz56 => kernel_rfl
                      case hrz56 => kernel_rfl
                      case hwz56 => rfl
                      case hyz56 => (intro w hSw; (try dsimp only at hSw); have e0 := hSw _ _ co nco; have e1 := hSw _ _ ca0 nca; have e2 := hSw _ _ ca1 nca; have e3 := hSw _ _ cb0 nca; have e4 := hSw _ _ cb1 nca; go_simp; (try with_reducible rfl))
                      try simp only [Act.put, List.setIfInBounds_toArray, List.set_cons_zero, List.set_cons_succ]
                      refine' wpAnyH_take (i := 5) (oi := ?oiz57) (v := ?vz57) ?haz57 (by kernel_rfl) ?hfz57 ?hrz57 ?hQz57 (Or.inl ⟨?hwz57, ?hyz57⟩) (by assumption) ?restz57
                      case haz57 => (simp only [List.getElem?_toArray, List.getElem?_cons_succ, List.getElem?_cons_zero]; exact rfl)
                      case hQz57 => exact fun _ _ _ h => h
                      case hfz57 => kernel_rfl
                      case hrz57 => kernel_rfl
                      case hwz57 => rfl
                      case hyz57 => (intro w hSw; (try dsimp only at hSw); have e0 := hSw _ _ co nco; have e1 := hSw _ _ ca0 nca; have e2 := hSw _ _ ca1 nca; have e3 := hSw _ _ cb0 nca; have e4 := hSw _ _ cb1 nca; go_simp; (try with_reducible rfl))
                      try simp only [Act.put, List.setIfInBounds_toArray, List.set_cons_zero, List.set_cons_succ]
                      refine' wpAnyH_take (i := 6) (oi := ?oiz58) (v := ?vz58) ?haz58 (by kernel_rfl) ?hfz58 ?hrz58 ?hQz58 (Or.inl ⟨?hwz58, ?hyz58⟩) (by assumption) ?restz58
                      case haz58 => (simp only [List.getElem?_toArray, List.getElem?_cons_succ, List.getElem?_cons_zero]; exact rfl)
                      case hQz58 => exact fun _ _ _ h => h
                      case hfz58 => kernel_rfl
                      case hrz58 => kernel_rfl
                      case hwz58 => rfl
                      case hyz58 => (intro w hSw; (try dsimp only at hSw); have e0 := hSw _ _ co nco; have e1 := hSw _ _ ca0 nca; have e2 := hSw _ _ ca1 nca; have e3 := hSw _ _ cb0 nca; have e4 := hSw _ _ cb1 nca; go_simp; (try with_reducible rfl))
                      try simp only [Act.put, List.setIfInBounds_toArray, List.set_cons_zero, List.set_cons_succ]
                      refine' wpAnyH_take (i := 7) (oi := ?oiz59) (v := ?vz59) ?haz59 (by kernel_rfl) ?hfz59 ?hrz59 ?hQz59 (Or.inl ⟨?hwz59, ?hyz59⟩) (by assumption) ?restz59
                      case haz59 => (simp only [List.getElem?_toArray, List.getElem?_cons_succ, List.getElem?_cons_zero]; exact rfl)
                      case hQz59 => exact fun _ _ _ h => h
                      case hfz59 => kernel_rfl
                      case hrz59 => kernel_rfl
                      case hwz59 => rfl
                      case hyz59 => (intro w hSw; (try dsimp only at hSw); have e0 := hSw _ _ co nco; have e1 := hSw _ _ ca0 nca; have e2 := hSw _ _ ca1 nca; have e3 := hSw _ _ cb0 nca; have e4 := hSw _ _ cb1 nca; go_simp; (try with_reducible rfl))
                      try simp only [Act.put, List.setIfInBounds_toArray, List.set_cons_zero, List.set_cons_succ]
                      refine' wpAnyH_take (i := 8) (oi := ?oiz60) (v := ?vz60) ?haz60 (by kernel_rfl) ?hfz60 ?hrz60 ?hQz60 (Or.inl ⟨?hwz60, ?hyz60⟩) (by assumption) ?restz60
                      case haz60 => (simp only [List.getElem?_toArray, List.getElem?_cons_succ, List.getElem?_cons_zero]; exact rfl)
                      case hQz60 => exact fun _ _ _ h => h
                      case hfz60 => kernel_rfl
                      case hrz60 => kernel_rfl
                      case hwz60 => rfl
                      case hyz60 => (intro w hSw; (try dsimp only at hSw); have e0 := hSw _ _ co nco; have e1 := hSw _ _ ca0 nca; have e2 := hSw _ _ ca1 nca; have e3 := hSw _ _ cb0 nca; have e4 := hSw _ _ cb1 nca; go_simp; (try with_reducible rfl))
                      try simp only [Act.put, List.setIfInBounds_toArray, List.set_cons_zero, List.set_cons_succ]
                      refine' wpAnyH_take (i := 9) (oi := ?oiz61) (v := ?vz61) ?haz61 (by kernel_rfl) ?hfz61 ?hrz61 ?hQz61 (Or.inl ⟨?hwz61, ?hyz61⟩) (by assumption) ?restz61
                      case haz61 => (simp only [List.getElem?_toArray, List.getElem?_cons_succ, List.getElem?_cons_zero]; exact rfl)
                      case hQz61 => exact fun _ _ _ h => h
                      case hfz61 => kernel_rfl
                      case hrz61 => kernel_rfl
                      case hwz61 => rfl
                      case hyz61 => (intro w hSw; (try dsimp only at hSw); have e0 := hSw _ _ co nco; have e1 := hSw _ _ ca0 nca; have e2 := hSw _ _ ca1 nca; have e3 := hSw _ _ cb0 nca; have e4 := hSw _ _ cb1 nca; go_simp; (try with_reducible rfl))
                      try simp only [Act.put, List.setIfInBounds_toArray, List.set_cons_zero, List.set_cons_succ]
                      refine' wpAnyH_take (i := 10) (oi := ?oiz62) (v := ?vz62) ?haz62 (by kernel_rfl) ?hfz62 ?hrz62 ?hQz62 (Or.inl ⟨?hwz62, ?hyz62⟩) (by assumption) ?restz62
                      case haz62 => (simp only [List.getElem?_toArray, List.getElem?_cons_succ, List.getElem?_cons_zero]; exact rfl)
                      case hQz62 => exact fun _ _ _ h => h
                      case hfz62 => kernel_rfl
                      case hrz62 => kernel_rfl
                      case hwz62 => rfl
                      case hyz62 => (intro w hSw; (try dsimp only at hSw); have e0 := hSw _ _ co nco; have e1 := hSw _ _ ca0 nca; have e2 := hSw _ _ ca1 nca; have e3 := hSw _ _ cb0 nca; have e4 := hSw _ _ cb1 nca; go_simp; (try with_reducible rfl))
                      try simp only [Act.put, List.setIfInBounds_toArray, List.set_cons_zero, List.set_cons_succ]
                      refine' wpAnyH_take (i := 11) (oi := ?oiz63) (v := ?vz63) ?haz63 (by kernel_rfl) ?hfz63 ?hrz63 ?hQz63 (Or.inl ⟨?hwz63, ?hyz63⟩) (by assumption) ?restz63
                      case haz63 => (simp only [List.getElem?_toArray, List.getElem?_cons_succ, List.getElem?_cons_zero]; exact rfl)
                      case hQz63 => exact fun _ _ _ h => h
                      case hfz63 => kernel_rfl
                      case hrz63 => kernel_rfl
                      case hwz63 => rfl
                      case hyz63 => (intro w hSw; (try dsimp only at hSw); have e0 := hSw _ _ co nco; have e1 := hSw _ _ ca0 nca; have e2 := hSw _ _ ca1 nca; have e3 := hSw _ _ cb0 nca; have e4 := hSw _ _ cb1 nca; go_simp; (try with_reducible rfl))
                      try simp only [Act.put, List.setIfInBounds_toArray, List.set_cons_zero, List.set_cons_succ]
                      refine' wpAnyH_take (i := 12) (oi := ?oiz64) (v := ?vz64) ?haz64 (by kernel_rfl) ?hfz64 ?hrz64 ?hQz64 (Or.inl ⟨?hwz64, ?hyz64⟩) (by assumption) ?restz64
                      case haz64 => (simp only [List.getElem?_toArray, List.getElem?_cons_succ, List.getElem?_cons_zero]; exact rfl)
                      case hQz64 => exact fun _ _ _ h => h
                      case hfz64 => kernel_rfl
                      case hrz64 => kernel_rfl
                      case hwz64 => rfl
                      case hyz64 => (intro w hSw; (try dsimp only at hSw); have e0 := hSw _ _ co nco; have e1 := hSw _ _ ca0 nca; have e2 := hSw _ _ ca1 nca; have e3 := hSw _ _ cb0 nca; have e4 := hSw _ _ cb1 nca; go_simp; (try with_reducible rfl))
                      try simp only [Act.put, List.setIfInBounds_toArray, List.set_cons_zero, List.set_cons_succ]
                      refine' wpAnyH_take (i := 13) (oi := ?oiz65) (v := ?vz65) ?haz65 (by kernel_rfl) ?hfz65 ?hrz65 ?hQz65 (Or.inl ⟨?hwz65, ?hyz65⟩) (by assumption) ?restz65
                      case haz65 => (simp only [List.getElem?_toArray, List.getElem?_cons_succ, List.getElem?_cons_zero]; exact rfl)
                      case hQz65 => exact fun _ _ _ h => h
                      case hfz65 => kernel_rfl
                      case hrz65 => kernel_rfl
                      case hwz65 => rfl
                      case hyz65 => (intro w hSw; (try dsimp only at hSw); have e0 := hSw _ _ co nco; have e1 := hSw _ _ ca0 nca; have e2 := hSw _ _ ca1 nca; have e3 := hSw _ _ cb0 nca; have e4 := hSw _ _ cb1 nca; go_simp; (try with_reducible rfl))
                      try simp only [Act.put, List.setIfInBounds_toArray, List.set_cons_zero, List.set_cons_succ]
                      refine' wpAnyH_take (i := 14) (oi := ?oiz66) (v := ?vz66) ?haz66 (by kernel_rfl) ?hfz66 ?hrz66 ?hQz66 (Or.inl ⟨?hwz66, ?hyz66⟩) (by assumption) ?restz66
                      case haz66 => (simp only [List.getElem?_toArray, List.getElem?_cons_succ, List.getElem?_cons_zero]; exact rfl)
                      case hQz66 => exact fun _ _ _ h => h
                      case hfz66 => kernel_rfl
                      case hrz66 => kernel_rfl
                      case hwz66 => rfl
                      case hyz66 => (intro w hSw; (try dsimp only at hSw); have e0 := hSw _ _ co nco; have e1 := hSw _ _ ca0 nca; have e2 := hSw _ _ ca1 nca; have e3 := hSw _ _ cb0 nca; have e4 := hSw _ _ cb1 nca; go_simp; (try with_reducible rfl))
                      try simp only [Act.put, List.setIfInBounds_toArray, List.set_cons_zero, List.set_cons_succ]
                      refine wpAnyH_ready (rs := [15, 16]) (by kernel_rfl) (by simp) ?_
                      refine' AllReadyH.cons (o := ?oiz73) ?haz73 (fun K hK => ?stepz73) (AllReadyH.cons (o := ?oiz74) ?haz74 (fun K hK => ?stepz74) AllReadyH.nil)
                      case haz73 => (simp only [List.getElem?_toArray, List.getElem?_cons_succ, List.getElem?_cons_zero]; exact rfl)
                      case haz74 => (simp only [List.getElem?_toArray, List.getElem?_cons_succ, List.getElem?_cons_zero]; exact rfl)
                      case stepz73 =>
                        go_simp
                        obtain ⟨y1, hy1⟩ : ∃ y1, y1 = World.alloc y0 (.cells #[.int .i64 0, .slice none 0 0] 40) := ⟨_, rfl⟩
                        rw [← hy1]
                        have sb : Below y0.heap.size y0 y1 := by rw [hy1]; exact (Below.refl _ _).alloc (Nat.le_refl _) _
                        have hgP14 : wz.heap.size ≤ y0.heap.size := BEL.size
                        have BEL := Below.chain BEL sb
                        have P14 : Pair y1 y0.heap.size 40 (.int .i64 0) (.slice none 0 0) := by rw [hy1]; exact pair_new _ _ _ _
                        have neP14 : ∀ k, k < y0.heap.size → y0.heap.size ≠ k := fun k h => by omega
                        have hk := hHeld.below sb
                        clear sb hy1
                        refine hK.out _ _ (hk) (fun hHeld => ?_)
                        clear hK K
                        try simp only [Act.put, List.setIfInBounds_toArray, List.set_cons_zero, List.set_cons_succ]
                        refine wpAnyH_ready (rs := [16]) (by kernel_rfl) (by simp) ?_
                        refine' AllReadyH.cons (o := ?oiz69) ?haz69 (fun K hK => ?stepz69) AllReadyH.nil
                        case haz69 => (simp only [List.getElem?_toArray, List.getElem?_cons_succ, List.getElem?_cons_zero]; exact rfl)
                        go_simp
                        obtain ⟨y2, hy2⟩ : ∃ y2, y2 = World.alloc y1 (.cells #[.int .i64 0, .slice none 0 0] 40) := ⟨_, rfl⟩
                        rw [← hy2]
                        have sb : Below y1.heap.size y1 y2 := by rw [hy2]; exact (Below.refl _ _).alloc (Nat.le_refl _) _
                        have hgP15 : wz.heap.size ≤ y1.heap.size := BEL.size
                        have BEL := Below.chain BEL sb
                        have hlt : y0.heap.size < y1.heap.size := P14.lt
                        have P14 := P14.below sb
                        have P15 : Pair y2 y1.heap.size 40 (.int .i64 0) (.slice none 0 0) := by rw [hy2]; exact pair_new _ _ _ _
                        have neP15 : ∀ k, k < y1.heap.size → y1.heap.size ≠ k := fun k h => by omega
                        have hk := hHeld.below sb
                        clear sb hy2
                        refine hK.out _ _ (hk) (fun hHeld => ?_)
                        clear hK K
                        try simp only [Act.put, List.setIfInBounds_toArray, List.set_cons_zero, List.set_cons_succ]
                        refine wpAnyH_ready (rs := [17]) (by kernel_rfl) (by simp) ?_
                        refine' AllReadyH.cons (o := ?oiz68) ?haz68 (fun K hK => ?stepz68) AllReadyH.nil
                        case haz68 => (simp only [List.getElem?_toArray, List.getElem?_cons_succ, List.getElem?_cons_zero]; exact rfl)
                        have e0 := P14.cell0
                        have e1 := P14.cell1
                        have g0 := P14.free0
                        have g1 := P14.free1
                        go_simp
                        have P14 := P14.set (.int .i64 A.low) ua
                        have P15 := (P15.other (C := y0.heap.size) (by have := hlt; omega) 0 (.int .i64 A.low)).other (C := y0.heap.size) (by have := hlt; omega) 1 ua
                        have BEL := (BEL.setCell (p := ⟨y0.heap.size, 0, none⟩) hgP14 (.int .i64 A.low)).setCell (p := ⟨y0.heap.size, 1, none⟩) hgP14 ua
                        have hk := Keeps.set (p := ⟨y0.heap.size, 1, none⟩) (Keeps.set (p := ⟨y0.heap.size, 0, none⟩) hHeld hgP14 (.int .i64 A.low)) hgP14 ua
                        clear e0 e1 g0 g1
                        refine hK.out _ _ (hk) (fun hHeld => ?_)
                        clear hK K
                        try simp only [Act.put, List.setIfInBounds_toArray, List.set_cons_zero, List.set_cons_succ]
                        refine wpAnyH_ready (rs := [18]) (by kernel_rfl) (by simp) ?_
                        refine' AllReadyH.cons (o := ?oiz67) ?haz67 (fun K hK => ?stepz67) AllReadyH.nil
                        case haz67 => (simp only [List.getElem?_toArray, List.getElem?_cons_succ, List.getElem?_cons_zero]; exact rfl)
                        have e0 := P15.cell0
                        have e1 := P15.cell1
                        have g0 := P15.free0
                        have g1 := P15.free1
                        go_simp
                        have P15 := P15.set (.int .i64 B.low) ub
                        have P14 := (P14.other (C := y1.heap.size) (by have := hlt; omega) 0 (.int .i64 B.low)).other (C := y1.heap.size) (by have := hlt; omega) 1 ub
                        have BEL := (BEL.setCell (p := ⟨y1.heap.size, 0, none⟩) hgP15 (.int .i64 B.low)).setCell (p := ⟨y1.heap.size, 1, none⟩) hgP15 ub
                        have hk := Keeps.set (p := ⟨y1.heap.size, 1, none⟩) (Keeps.set (p := ⟨y1.heap.size, 0, none⟩) hHeld hgP15 (.int .i64 B.low)) hgP15 ub
                        clear e0 e1 g0 g1
                        refine hK.out _ _ (hk) (fun hHeld => ?_)
                        clear hK K
                        try simp only [Act.put, List.setIfInBounds_toArray, List.set_cons_zero, List.set_cons_succ]
                        refine wpAnyH_done (by kernel_rfl) ?_ _
                        go_wp2_with fail
                        go_meet
                        case rel => exact ⟨_, _, rfl, rfl, P14, P15, BEL, hgP14, hgP15⟩
                      case stepz74 =>
                        go_simp
                        obtain ⟨y5, hy5⟩ : ∃ y5, y5 = World.alloc y0 (.cells #[.int .i64 0, .slice none 0 0] 40) := ⟨_, rfl⟩
                        rw [← hy5]
                        have sb : Below y0.heap.size y0 y5 := by rw [hy5]; exact (Below.refl _ _).alloc (Nat.le_refl _) _
                        have hgP15 : wz.heap.size ≤ y0.heap.size := BEL.size
                        have BEL := Below.chain BEL sb
                        have P15 : Pair y5 y0.heap.size 40 (.int .i64 0) (.slice none 0 0) := by rw [hy5]; exact pair_new _ _ _ _
                        have neP15 : ∀ k, k < y0.heap.size → y0.heap.size ≠ k := fun k h => by omega
                        have hk := hHeld.below sb
                        clear sb hy5
                        refine hK.out _ _ (hk) (fun hHeld => ?_)
                        clear hK K
                        try simp only [Act.put, List.setIfInBounds_toArray, List.set_cons_zero, List.set_cons_succ]
                        refine wpAnyH_ready (rs := [15]) (by kernel_rfl) (by simp) ?_
                        refine' AllReadyH.cons (o := ?oiz72) ?haz72 (fun K hK => ?stepz72) AllReadyH.nil
                        case haz72 => (simp only [List.getElem?_toArray, List.getElem?_cons_succ, List.getElem?_cons_zero]; exact rfl)
                        go_simp
                        obtain ⟨y6, hy6⟩ : ∃ y6, y6 = World.alloc y5 (.cells #[.int .i64 0, .slice none 0 0] 40) := ⟨_, rfl⟩
                        rw [← hy6]
                        have sb : Below y5.heap.size y5 y6 := by rw [hy6]; exact (Below.refl _ _).alloc (Nat.le_refl _) _
                        have hgP14 : wz.heap.size ≤ y5.heap.size := BEL.size
                        have BEL := Below.chain BEL sb
                        have hlt : y0.heap.size < y5.heap.size := P15.lt
                        have P15 := P15.below sb
                        have P14 : Pair y6 y5.heap.size 40 (.int .i64 0) (.slice none 0 0) := by rw [hy6]; exact pair_new _ _ _ _
                        have neP14 : ∀ k, k < y5.heap.size → y5.heap.size ≠ k := fun k h => by omega
                        have hk := hHeld.below sb
                        clear sb hy6
                        refine hK.out _ _ (hk) (fun hHeld => ?_)
                        clear hK K
                        try simp only [Act.put, List.setIfInBounds_toArray, List.set_cons_zero, List.set_cons_succ]
                        refine wpAnyH_ready (rs := [17]) (by kernel_rfl) (by simp) ?_
                        refine' AllReadyH.cons (o := ?oiz71) ?haz71 (fun K hK => ?stepz71) AllReadyH.nil
                        case haz71 => (simp only [List.getElem?_toArray, List.getElem?_cons_succ, List.getElem?_cons_zero]; exact rfl)
                        have e0 := P14.cell0
                        have e1 := P14.cell1
                        have g0 := P14.free0
                        have g1 := P14.free1
                        go_simp
                        have P14 := P14.set (.int .i64 A.low) ua
                        have P15 := (P15.other (C := y5.heap.size) (by have := hlt; omega) 0 (.int .i64 A.low)).other (C := y5.heap.size) (by have := hlt; omega) 1 ua
                        have BEL := (BEL.setCell (p := ⟨y5.heap.size, 0, none⟩) hgP14 (.int .i64 A.low)).setCell (p := ⟨y5.heap.size, 1, none⟩) hgP14 ua
                        have hk := Keeps.set (p := ⟨y5.heap.size, 1, none⟩) (Keeps.set (p := ⟨y5.heap.size, 0, none⟩) hHeld hgP14 (.int .i64 A.low)) hgP14 ua
                        clear e0 e1 g0 g1
                        refine hK.out _ _ (hk) (fun hHeld => ?_)
                        clear hK K
                        try simp only [Act.put, List.setIfInBounds_toArray, List.set_cons_zero, List.set_cons_succ]
                        refine wpAnyH_ready (rs := [18]) (by kernel_rfl) (by simp) ?_
                        refine' AllReadyH.cons (o := ?oiz70) ?haz70 (fun K hK => ?stepz70) AllReadyH.nil
                        case haz70 => (simp only [List.getElem?_toArray, List.getElem?_cons_succ, List.getElem?_cons_zero]; exact rfl)
                        have e0 := P15.cell0
                        have e1 := P15.cell1
                        have g0 := P15.free0
                        have g1 := P15.free1
                        go_simp
                        have P15 := P15.set (.int .i64 B.low) ub
                        have P14 := (P14.other (C := y0.heap.size) (by have := hlt; omega) 0 (.int .i64 B.low)).other (C := y0.heap.size) (by have := hlt; omega) 1 ub
                        have BEL := (BEL.setCell (p := ⟨y0.heap.size, 0, none⟩) hgP15 (.int .i64 B.low)).setCell (p := ⟨y0.heap.size, 1, none⟩) hgP15 ub
                        have hk := Keeps.set (p := ⟨y0.heap.size, 1, none⟩) (Keeps.set (p := ⟨y0.heap.size, 0, none⟩) hHeld hgP15 (.int .i64 B.low)) hgP15 ub
                        clear e0 e1 g0 g1
                        refine hK.out _ _ (hk) (fun hHeld => ?_)
                        clear hK K
                        try simp only [Act.put, List.setIfInBounds_toArray, List.set_cons_zero, List.set_cons_succ]
                        refine wpAnyH_done (by kernel_rfl) ?_ _
                        go_wp2_with fail
                        go_meet
                        case rel => exact ⟨_, _, rfl, rfl, P14, P15, BEL, hgP14, hgP15⟩
                  case rest =>
                    obtain ⟨ba, bb, rfl, rfl, hPA, hPB, hbel, hga, hgb⟩ := hcut
                    have HCO := Lib.hid (cell_keep hbel HCO.out)
                    have HM0 := Lib.hid (cell_keep hbel HM0.out)
                    have HM1 := Lib.hid (cell_keep hbel HM1.out)
                    have HM2 := Lib.hid (cell_keep hbel HM2.out)
                    have HM3 := Lib.hid (cell_keep hbel HM3.out)
                    have HM4 := Lib.hid (cell_keep hbel HM4.out)
                    have HM5 := Lib.hid (cell_keep hbel HM5.out)
                    have HM6 := Lib.hid (cell_keep hbel HM6.out)
                    have HM7 := Lib.hid (cell_keep hbel HM7.out)
                    have HI00 := Lib.hid (HI00.out.below hbel); have HI01 := Lib.hid (HI01.out.below hbel); have HI10 := Lib.hid (HI10.out.below hbel); have HI11 := Lib.hid (HI11.out.below hbel)
                    have HIA := Lib.hid (HIA.out.below hbel); have HIB := Lib.hid (HIB.out.below hbel)
                    have HPM1 := Lib.hid (HPZ.out.below hbel)
                    have HBW := Lib.hid (HBZ.out.trans (hbel.mono HBZ.out.size))
                    have HBE := Lib.hid hbel
                    have hszc := hbel.size
                    have A0 := Lib.hid hPA.cell0; have A1 := Lib.hid hPA.cell1; have B0 := Lib.hid hPB.cell0; have B1 := Lib.hid hPB.cell1
                    have nRa : ¬ R ba := fun hr => by have := HRB.out _ hr; omega
                    have nRbb : ¬ R bb := fun hr => by have := HRB.out _ hr; omega
                    clear hPA hPB hbel co ca0 ca1 cb0 cb1
                    go_wp2_with fail
                    go_loopw [84] (fun i wq => ∃ k : Nat, k ≤ 2 ∧ i = .int .i64 k ∧ PMat wq w.heap.size out vs (M'.set r (rst x p (nthm M' r) A B k)) ∧ Below w.heap.size w wq ∧ Keeps wc R wq ∧ wc.heap.size ≤ wq.heap.size) (fun i _ => 2 - (intOf i).toNat)
                    case atStart => exact ⟨0, by omega, rfl, by rw [show rst x p (nthm M' r) A B 0 = nthm M' r from rfl, set_nthm (by rw [HML'.out]; exact hrn)]; exact HPM1.out, HBW.out, Keeps.refl _ _, Nat.le_refl _⟩
                    case round =>
                      obtain ⟨wq, rfl⟩ : ∃ wq, wq = wr := ⟨_, rfl⟩
                      obtain ⟨k, hk, rfl, hpq, hbq, hkq, hsq⟩ := hrel
                      have HPQ := Lib.hid hpq; have HBQ := Lib.hid hbq; have HKQ := Lib.hid hkq
                      by_cases hk2 : k < 2
                      · have co := hkq _ _ HCO.out hRo
                        have a0 := hkq _ _ A0.out nRa; have a1 := hkq _ _ A1.out nRa; have b0 := hkq _ _ B0.out nRbb; have b1 := hkq _ _ B1.out nRbb
                        have m0 := hkq _ _ HM0.out nRb
                        have m1 := hkq _ _ HM1.out nRb
                        have m2 := hkq _ _ HM2.out nRb
                        have m3 := hkq _ _ HM3.out nRb
                        have m4 := hkq _ _ HM4.out nRb
                        have m5 := hkq _ _ HM5.out nRb
                        have m6 := hkq _ _ HM6.out nRb
                        have m7 := hkq _ _ HM7.out nRb
                        have HIA := Lib.hid (hkq.ints HIA.out NA.out); have HIB := Lib.hid (hkq.ints HIB.out NB.out)
                        have HI00 := Lib.hid (hkq.ints HI00.out N00.out); have HI01 := Lib.hid (hkq.ints HI01.out N01.out); have HI10 := Lib.hid (hkq.ints HI10.out N10.out); have HI11 := Lib.hid (hkq.ints HI11.out N11.out)
                        have na : (⟨ba, 0, none⟩ : Addr).block ≠ vblk row := fun e => nRa (by rw [show ba = vblk row from e]; exact hRr)
                        have nb : (⟨bb, 0, none⟩ : Addr).block ≠ vblk row := fun e => nRbb (by rw [show bb = vblk row from e]; exact hRr)
                        have nm : (⟨b, 0, none⟩ : Addr).block ≠ vblk row := fun e => nRb (by rw [show b = vblk row from e]; exact hRr)
                        have nco := hno
                        have HLEN : Hid ((nthm (M'.set r (rst x p (nthm M' r) A B k)) r).length = n) := Lib.hid (by rw [nthm_set (by rw [HML'.out]; exact hrn), if_pos rfl, rst_length]; exact HRL.out)
                        clear hpq hbq hkq
                        rcases (show k = 0 ∨ k = 1 by omega) with rfl | rfl
                        · skip
                          go_wp2_with fail
                          refine wp_region_held_drew (S := Keeps wq (fun k => k = vblk row)) (by kernel_rfl) (Keeps.drew (Keeps.refl _ _)) (fun hHeld => ?_)
                          have BEL : Below wq.heap.size wq wq.drew := (Below.refl _ _).drew
                          obtain ⟨y0, hy0⟩ : ∃ y0, y0 = wq.drew := ⟨_, rfl⟩
                          rw [← hy0] at hHeld BEL ⊢
                          clear hy0
                          refine' wpAnyH_take (i := 0) (oi := ?oiz75) (v := ?vz75) ?haz75 (by kernel_rfl) ?hfz75 ?hrz75 ?hQz75 (Or.inl ⟨?hwz75, ?hyz75⟩) (by assumption) ?restz75
                          case haz75 => (simp only [List.getElem?_toArray, List.getElem?_cons_zero]; exact rfl)
                          case hQz75 => exact fun _ _ _ h => h
                          case hfz75 => kernel_rfl
                          case hrz75 => kernel_rfl
                          case hwz75 => rfl
                          case hyz75 => (intro w hSw; (try dsimp only at hSw); have e0 := hSw _ _ co nco; have e1 := hSw _ _ a0 na; have e2 := hSw _ _ a1 na; have e3 := hSw _ _ b0 nb; have e4 := hSw _ _ b1 nb; have e5 := hSw _ _ m0 nm; have e6 := hSw _ _ m1 nm; have e7 := hSw _ _ m4 nm; have e8 := hSw _ _ m5 nm; go_simp; (try with_reducible rfl))
                          try simp only [Act.put, List.setIfInBounds_toArray, List.set_cons_zero, List.set_cons_succ]
                          refine' wpAnyH_take (i := 1) (oi := ?oiz76) (v := ?vz76) ?haz76 (by kernel_rfl) ?hfz76 ?hrz76 ?hQz76 (Or.inl ⟨?hwz76, ?hyz76⟩) (by assumption) ?restz76
                          case haz76 => (simp only [List.getElem?_toArray, List.getElem?_cons_succ, List.getElem?_cons_zero]; exact rfl)
                          case hQz76 => exact fun _ _ _ h => h
                          case hfz76 => kernel_rfl
                          case hrz76 => kernel_rfl
                          case hwz76 => rfl
                          case hyz76 => (intro w hSw; (try dsimp only at hSw); have e0 := hSw _ _ co nco; have e1 := hSw _ _ a0 na; have e2 := hSw _ _ a1 na; have e3 := hSw _ _ b0 nb; have e4 := hSw _ _ b1 nb; have e5 := hSw _ _ m0 nm; have e6 := hSw _ _ m1 nm; have e7 := hSw _ _ m4 nm; have e8 := hSw _ _ m5 nm; go_simp; (try with_reducible rfl))
                          try simp only [Act.put, List.setIfInBounds_toArray, List.set_cons_zero, List.set_cons_succ]
                          refine' wpAnyH_take (i := 2) (oi := ?oiz77) (v := ?vz77) ?haz77 (by kernel_rfl) ?hfz77 ?hrz77 ?hQz77 (Or.inl ⟨?hwz77, ?hyz77⟩) (by assumption) ?restz77
                          case haz77 => (simp only [List.getElem?_toArray, List.getElem?_cons_succ, List.getElem?_cons_zero]; exact rfl)
                          case hQz77 => exact fun _ _ _ h => h
                          case hfz77 => kernel_rfl
                          case hrz77 => kernel_rfl
                          case hwz77 => rfl
                          case hyz77 => (intro w hSw; (try dsimp only at hSw); have e0 := hSw _ _ co nco; have e1 := hSw _ _ a0 na; have e2 := hSw _ _ a1 na; have e3 := hSw _ _ b0 nb; have e4 := hSw _ _ b1 nb; have e5 := hSw _ _ m0 nm; have e6 := hSw _ _ m1 nm; have e7 := hSw _ _ m4 nm; have e8 := hSw _ _ m5 nm; go_simp; (try with_reducible rfl))
                          try simp only [Act.put, List.setIfInBounds_toArray, List.set_cons_zero, List.set_cons_succ]
                          refine' wpAnyH_take (i := 3) (oi := ?oiz78) (v := ?vz78) ?haz78 (by kernel_rfl) ?hfz78 ?hrz78 ?hQz78 (Or.inl ⟨?hwz78, ?hyz78⟩) (by assumption) ?restz78
                          case haz78 => (simp only [List.getElem?_toArray, List.getElem?_cons_succ, List.getElem?_cons_zero]; exact rfl)
                          case hQz78 => exact fun _ _ _ h => h
                          case hfz78 => kernel_rfl
                          case hrz78 => kernel_rfl
                          case hwz78 => rfl
                          case hyz78 => (intro w hSw; (try dsimp only at hSw); have e0 := hSw _ _ co nco; have e1 := hSw _ _ a0 na; have e2 := hSw _ _ a1 na; have e3 := hSw _ _ b0 nb; have e4 := hSw _ _ b1 nb; have e5 := hSw _ _ m0 nm; have e6 := hSw _ _ m1 nm; have e7 := hSw _ _ m4 nm; have e8 := hSw _ _ m5 nm; go_simp; (try with_reducible rfl))
                          try simp only [Act.put, List.setIfInBounds_toArray, List.set_cons_zero, List.set_cons_succ]
                          refine' wpAnyH_take (i := 4) (oi := ?oiz79) (v := ?vz79) ?haz79 (by kernel_rfl) ?hfz79 ?hrz79 ?hQz79 (Or.inl ⟨?hwz79, ?hyz79⟩) (by assumption) ?restz79
                          case haz79 => (simp only [List.getElem?_toArray, List.getElem?_cons_succ, List.getElem?_cons_zero]; exact rfl)
                          case hQz79 => exact fun _ _ _ h => h
                          case hfz79 => kernel_rfl
                          case hrz79 => kernel_rfl
                          case hwz79 => rfl
                          case hyz79 => (intro w hSw; (try dsimp only at hSw); have e0 := hSw _ _ co nco; have e1 := hSw _ _ a0 na; have e2 := hSw _ _ a1 na; have e3 := hSw _ _ b0 nb; have e4 := hSw _ _ b1 nb; have e5 := hSw _ _ m0 nm; have e6 := hSw _ _ m1 nm; have e7 := hSw _ _ m4 nm; have e8 := hSw _ _ m5 nm; go_simp; (try with_reducible rfl))
                          try simp only [Act.put, List.setIfInBounds_toArray, List.set_cons_zero, List.set_cons_succ]
                          refine' wpAnyH_take (i := 5) (oi := ?oiz80) (v := ?vz80) ?haz80 (by kernel_rfl) ?hfz80 ?hrz80 ?hQz80 (Or.inl ⟨?hwz80, ?hyz80⟩) (by assumption) ?restz80
                          case haz80 => (simp only [List.getElem?_toArray, List.getElem?_cons_succ, List.getElem?_cons_zero]; exact rfl)
                          case hQz80 => exact fun _ _ _ h => h
                          case hfz80 => kernel_rfl
                          case hrz80 => kernel_rfl
                          case hwz80 => rfl
                          case hyz80 => (intro w hSw; (try dsimp only at hSw); have e0 := hSw _ _ co nco; have e1 := hSw _ _ a0 na; have e2 := hSw _ _ a1 na; have e3 := hSw _ _ b0 nb; have e4 := hSw _ _ b1 nb; have e5 := hSw _ _ m0 nm; have e6 := hSw _ _ m1 nm; have e7 := hSw _ _ m4 nm; have e8 := hSw _ _ m5 nm; go_simp; (try with_reducible rfl))
                          try simp only [Act.put, List.setIfInBounds_toArray, List.set_cons_zero, List.set_cons_succ]
                          refine' wpAnyH_take (i := 6) (oi := ?oiz81) (v := ?vz81) ?haz81 (by kernel_rfl) ?hfz81 ?hrz81 ?hQz81 (Or.inl ⟨?hwz81, ?hyz81⟩) (by assumption) ?restz81
                          case haz81 => (simp only [List.getElem?_toArray, List.getElem?_cons_succ, List.getElem?_cons_zero]; exact rfl)
                          case hQz81 => exact fun _ _ _ h => h
                          case hfz81 => kernel_rfl
                          case hrz81 => kernel_rfl
                          case hwz81 => rfl
                          case hyz81 => (intro w hSw; (try dsimp only at hSw); have e0 := hSw _ _ co nco; have e1 := hSw _ _ a0 na; have e2 := hSw _ _ a1 na; have e3 := hSw _ _ b0 nb; have e4 := hSw _ _ b1 nb; have e5 := hSw _ _ m0 nm; have e6 := hSw _ _ m1 nm; have e7 := hSw _ _ m4 nm; have e8 := hSw _ _ m5 nm; go_simp; (try with_reducible rfl))
                          try simp only [Act.put, List.setIfInBounds_toArray, List.set_cons_zero, List.set_cons_succ]
                          refine' wpAnyH_take (i := 7) (oi := ?oiz82) (v := ?vz82) ?haz82 (by kernel_rfl) ?hfz82 ?hrz82 ?hQz82 (Or.inl ⟨?hwz82, ?hyz82⟩) (by assumption) ?restz82
                          case haz82 => (simp only [List.getElem?_toArray, List.getElem?_cons_succ, List.getElem?_cons_zero]; exact rfl)
                          case hQz82 => exact fun _ _ _ h => h
                          case hfz82 => kernel_rfl
                          case hrz82 => kernel_rfl
                          case hwz82 => rfl
                          case hyz82 => (intro w hSw; (try dsimp only at hSw); have e0 := hSw _ _ co nco; have e1 := hSw _ _ a0 na; have e2 := hSw _ _ a1 na; have e3 := hSw _ _ b0 nb; have e4 := hSw _ _ b1 nb; have e5 := hSw _ _ m0 nm; have e6 := hSw _ _ m1 nm; have e7 := hSw _ _ m4 nm; have e8 := hSw _ _ m5 nm; go_simp; (try with_reducible rfl))
                          try simp only [Act.put, List.setIfInBounds_toArray, List.set_cons_zero, List.set_cons_succ]
                          refine' wpAnyH_take (i := 8) (oi := ?oiz83) (v := ?vz83) ?haz83 (by kernel_rfl) ?hfz83 ?hrz83 ?hQz83 (Or.inl ⟨?hwz83, ?hyz83⟩) (by assumption) ?restz83
                          case haz83 => (simp only [List.getElem?_toArray, List.getElem?_cons_succ, List.getElem?_cons_zero]; exact rfl)
                          case hQz83 => exact fun _ _ _ h => h
                          case hfz83 => kernel_rfl
                          case hrz83 => kernel_rfl
                          case hwz83 => rfl
                          case hyz83 => (intro w hSw; (try dsimp only at hSw); have e0 := hSw _ _ co nco; have e1 := hSw _ _ a0 na; have e2 := hSw _ _ a1 na; have e3 := hSw _ _ b0 nb; have e4 := hSw _ _ b1 nb; have e5 := hSw _ _ m0 nm; have e6 := hSw _ _ m1 nm; have e7 := hSw _ _ m4 nm; have e8 := hSw _ _ m5 nm; go_simp; (try with_reducible rfl))
                          try simp only [Act.put, List.setIfInBounds_toArray, List.set_cons_zero, List.set_cons_succ]
                          refine' wpAnyH_take (i := 9) (oi := ?oiz84) (v := ?vz84) ?haz84 (by kernel_rfl) ?hfz84 ?hrz84 ?hQz84 (Or.inl ⟨?hwz84, ?hyz84⟩) (by assumption) ?restz84
                          case haz84 => (simp only [List.getElem?_toArray, List.getElem?_cons_succ, List.getElem?_cons_zero]; exact rfl)
                          case hQz84 => exact fun _ _ _ h => h
                          case hfz84 => kernel_rfl
                          case hrz84 => kernel_rfl
                          case hwz84 => rfl
                          case hyz84 => (intro w hSw; (try dsimp only at hSw); have e0 := hSw _ _ co nco; have e1 := hSw _ _ a0 na; have e2 := hSw _ _ a1 na; have e3 := hSw _ _ b0 nb; have e4 := hSw _ _ b1 nb; have e5 := hSw _ _ m0 nm; have e6 := hSw _ _ m1 nm; have e7 := hSw _ _ m4 nm; have e8 := hSw _ _ m5 nm; go_simp; (try with_reducible rfl))
                          try simp only [Act.put, List.setIfInBounds_toArray, List.set_cons_zero, List.set_cons_succ]
                          refine' wpAnyH_take (i := 10) (oi := ?oiz85) (v := ?vz85) ?haz85 (by kernel_rfl) ?hfz85 ?hrz85 ?hQz85 (Or.inl ⟨?hwz85, ?hyz85⟩) (by assumption) ?restz85
                          case haz85 => (simp only [List.getElem?_toArray, List.getElem?_cons_succ, List.getElem?_cons_zero]; exact rfl)
                          case hQz85 => exact fun _ _ _ h => h
                          case hfz85 => kernel_rfl
                          case hrz85 => kernel_rfl
                          case hwz85 => rfl
                          case hyz85 => (intro w hSw; (try dsimp only at hSw); have e0 := hSw _ _ co nco; have e1 := hSw _ _ a0 na; have e2 := hSw _ _ a1 na; have e3 := hSw _ _ b0 nb; have e4 := hSw _ _ b1 nb; have e5 := hSw _ _ m0 nm; have e6 := hSw _ _ m1 nm; have e7 := hSw _ _ m4 nm; have e8 := hSw _ _ m5 nm; go_simp; (try with_reducible rfl))
                          try simp only [Act.put, List.setIfInBounds_toArray, List.set_cons_zero, List.set_cons_succ]
                          refine' wpAnyH_take (i := 11) (oi := ?oiz86) (v := ?vz86) ?haz86 (by kernel_rfl) ?hfz86 ?hrz86 ?hQz86 (Or.inl ⟨?hwz86, ?hyz86⟩) (by assumption) ?restz86
                          case haz86 => (simp only [List.getElem?_toArray, List.getElem?_cons_succ, List.getElem?_cons_zero]; exact rfl)
                          case hQz86 => exact fun _ _ _ h => h
                          case hfz86 => kernel_rfl
                          case hrz86 => kernel_rfl
                          case hwz86 => rfl
                          case hyz86 => (intro w hSw; (try dsimp only at hSw); have e0 := hSw _ _ co nco; have e1 := hSw _ _ a0 na; have e2 := hSw _ _ a1 na; have e3 := hSw _ _ b0 nb; have e4 := hSw _ _ b1 nb; have e5 := hSw _ _ m0 nm; have e6 := hSw _ _ m1 nm; have e7 := hSw _ _ m4 nm; have e8 := hSw _ _ m5 nm; go_simp; (try with_reducible rfl))
                          try simp only [Act.put, List.setIfInBounds_toArray, List.set_cons_zero, List.set_cons_succ]
                          refine' wpAnyH_take (i := 12) (oi := ?oiz87) (v := ?vz87) ?haz87 (by kernel_rfl) ?hfz87 ?hrz87 ?hQz87 (Or.inl ⟨?hwz87, ?hyz87⟩) (by assumption) ?restz87
                          case haz87 => (simp only [List.getElem?_toArray, List.getElem?_cons_succ, List.getElem?_cons_zero]; exact rfl)
                          case hQz87 => exact fun _ _ _ h => h
                          case hfz87 => kernel_rfl
                          case hrz87 => kernel_rfl
                          case hwz87 => rfl
                          case hyz87 => (intro w hSw; (try dsimp only at hSw); have e0 := hSw _ _ co nco; have e1 := hSw _ _ a0 na; have e2 := hSw _ _ a1 na; have e3 := hSw _ _ b0 nb; have e4 := hSw _ _ b1 nb; have e5 := hSw _ _ m0 nm; have e6 := hSw _ _ m1 nm; have e7 := hSw _ _ m4 nm; have e8 := hSw _ _ m5 nm; go_simp; (try with_reducible rfl))
                          try simp only [Act.put, List.setIfInBounds_toArray, List.set_cons_zero, List.set_cons_succ]
                          refine' wpAnyH_take (i := 14) (oi := ?oiz88) (v := ?vz88) ?haz88 (by kernel_rfl) ?hfz88 ?hrz88 ?hQz88 (Or.inl ⟨?hwz88, ?hyz88⟩) (by assumption) ?restz88
                          case haz88 => (simp only [List.getElem?_toArray, List.getElem?_cons_succ, List.getElem?_cons_zero]; exact rfl)
                          case hQz88 => exact fun _ _ _ h => h
                          case hfz88 => kernel_rfl
                          case hrz88 => kernel_rfl
                          case hwz88 => rfl
                          case hyz88 => (intro w hSw; (try dsimp only at hSw); have e0 := hSw _ _ co nco; have e1 := hSw _ _ a0 na; have e2 := hSw _ _ a1 na; have e3 := hSw _ _ b0 nb; have e4 := hSw _ _ b1 nb; have e5 := hSw _ _ m0 nm; have e6 := hSw _ _ m1 nm; have e7 := hSw _ _ m4 nm; have e8 := hSw _ _ m5 nm; go_simp; (try with_reducible rfl))
                          try simp only [Act.put, List.setIfInBounds_toArray, List.set_cons_zero, List.set_cons_succ]
                          refine' wpAnyH_take (i := 15) (oi := ?oiz89) (v := ?vz89) ?haz89 (by kernel_rfl) ?hfz89 ?hrz89 ?hQz89 (Or.inl ⟨?hwz89, ?hyz89⟩) (by assumption) ?restz89
                          case haz89 => (simp only [List.getElem?_toArray, List.getElem?_cons_succ, List.getElem?_cons_zero]; exact rfl)
                          case hQz89 => exact fun _ _ _ h => h
                          case hfz89 => kernel_rfl
                          case hrz89 => kernel_rfl
                          case hwz89 => rfl
                          case hyz89 => (intro w hSw; (try dsimp only at hSw); have e0 := hSw _ _ co nco; have e1 := hSw _ _ a0 na; have e2 := hSw _ _ a1 na; have e3 := hSw _ _ b0 nb; have e4 := hSw _ _ b1 nb; have e5 := hSw _ _ m0 nm; have e6 := hSw _ _ m1 nm; have e7 := hSw _ _ m4 nm; have e8 := hSw _ _ m5 nm; go_simp; (try with_reducible rfl))
                          try simp only [Act.put, List.setIfInBounds_toArray, List.set_cons_zero, List.set_cons_succ]
                          refine' wpAnyH_take (i := 16) (oi := ?oiz90) (v := ?vz90) ?haz90 (by kernel_rfl) ?hfz90 ?hrz90 ?hQz90 (Or.inl ⟨?hwz90, ?hyz90⟩) (by assumption) ?restz90
                          case haz90 => (simp only [List.getElem?_toArray, List.getElem?_cons_succ, List.getElem?_cons_zero]; exact rfl)
                          case hQz90 => exact fun _ _ _ h => h
                          case hfz90 => kernel_rfl
                          case hrz90 => kernel_rfl
                          case hwz90 => rfl
                          case hyz90 => (intro w hSw; (try dsimp only at hSw); have e0 := hSw _ _ co nco; have e1 := hSw _ _ a0 na; have e2 := hSw _ _ a1 na; have e3 := hSw _ _ b0 nb; have e4 := hSw _ _ b1 nb; have e5 := hSw _ _ m0 nm; have e6 := hSw _ _ m1 nm; have e7 := hSw _ _ m4 nm; have e8 := hSw _ _ m5 nm; go_simp; (try with_reducible rfl))
                          try simp only [Act.put, List.setIfInBounds_toArray, List.set_cons_zero, List.set_cons_succ]
                          refine' wpAnyH_take (i := 17) (oi := ?oiz91) (v := ?vz91) ?haz91 (by kernel_rfl) ?hfz91 ?hrz91 ?hQz91 (Or.inl ⟨?hwz91, ?hyz91⟩) (by assumption) ?restz91
                          case haz91 => (simp only [List.getElem?_toArray, List.getElem?_cons_succ, List.getElem?_cons_zero]; exact rfl)
                          case hQz91 => exact fun _ _ _ h => h
                          case hfz91 => kernel_rfl
                          case hrz91 => kernel_rfl
                          case hwz91 => rfl
                          case hyz91 => (intro w hSw; (try dsimp only at hSw); have e0 := hSw _ _ co nco; have e1 := hSw _ _ a0 na; have e2 := hSw _ _ a1 na; have e3 := hSw _ _ b0 nb; have e4 := hSw _ _ b1 nb; have e5 := hSw _ _ m0 nm; have e6 := hSw _ _ m1 nm; have e7 := hSw _ _ m4 nm; have e8 := hSw _ _ m5 nm; go_simp; (try with_reducible rfl))
                          try simp only [Act.put, List.setIfInBounds_toArray, List.set_cons_zero, List.set_cons_succ]
                          refine' wpAnyH_take (i := 18) (oi := ?oiz92) (v := ?vz92) ?haz92 (by kernel_rfl) ?hfz92 ?hrz92 ?hQz92 (Or.inl ⟨?hwz92, ?hyz92⟩) (by assumption) ?restz92
                          case haz92 => (simp only [List.getElem?_toArray, List.getElem?_cons_succ, List.getElem?_cons_zero]; exact rfl)
                          case hQz92 => exact fun _ _ _ h => h
                          case hfz92 => kernel_rfl
                          case hrz92 => kernel_rfl
                          case hwz92 => rfl
                          case hyz92 => (intro w hSw; (try dsimp only at hSw); have e0 := hSw _ _ co nco; have e1 := hSw _ _ a0 na; have e2 := hSw _ _ a1 na; have e3 := hSw _ _ b0 nb; have e4 := hSw _ _ b1 nb; have e5 := hSw _ _ m0 nm; have e6 := hSw _ _ m1 nm; have e7 := hSw _ _ m4 nm; have e8 := hSw _ _ m5 nm; go_simp; (try with_reducible rfl))
                          try simp only [Act.put, List.setIfInBounds_toArray, List.set_cons_zero, List.set_cons_succ]
                          refine wpAnyH_ready (rs := [13]) (by kernel_rfl) (by simp) ?_
                          refine' AllReadyH.cons (o := ?oiz97) ?haz97 (fun K hK => ?stepz97) AllReadyH.nil
                          case haz97 => (simp only [List.getElem?_toArray, List.getElem?_cons_succ, List.getElem?_cons_zero]; exact rfl)
                          go_simp
                          refine (times_sm A (bm x 0 0) ua u00 _ (HIA.out.below BEL) (HI00.out.below BEL) HSA.out (bm_sm x 0 0)).mono ?_
                          rintro e y1 ⟨S1, rfl, hS1, sb⟩
                          have sS1 := hS1.isSl
                          have hk := hHeld.below sb
                          have OS1 := hS1
                          have BEL := Below.chain BEL sb
                          clear hS1 sb
                          go_wp2_with fail
                          refine hK.out _ _ (hk) (fun hHeld => ?_)
                          clear hK K
                          try simp only [Act.put, List.setIfInBounds_toArray, List.set_cons_zero, List.set_cons_succ]
                          refine wpAnyH_ready (rs := [19]) (by kernel_rfl) (by simp) ?_
                          refine' AllReadyH.cons (o := ?oiz96) ?haz96 (fun K hK => ?stepz96) AllReadyH.nil
                          case haz96 => (simp only [List.getElem?_toArray, List.getElem?_cons_succ, List.getElem?_cons_zero]; exact rfl)
                          go_simp
                          refine (times_sm B (bm x 1 0) ub u10 _ (HIB.out.below BEL) (HI10.out.below BEL) HSB.out (bm_sm x 1 0)).mono ?_
                          rintro e y2 ⟨S2, rfl, hS2, sb⟩
                          have sS2 := hS2.isSl
                          have hk := hHeld.below sb
                          have OS2 := hS2
                          have OS1 := OS1.below sb
                          have BEL := Below.chain BEL sb
                          clear hS2 sb
                          go_wp2_with fail
                          refine hK.out _ _ (hk) (fun hHeld => ?_)
                          clear hK K
                          try simp only [Act.put, List.setIfInBounds_toArray, List.set_cons_zero, List.set_cons_succ]
                          refine wpAnyH_ready (rs := [20]) (by kernel_rfl) (by simp) ?_
                          refine' AllReadyH.cons (o := ?oiz95) ?haz95 (fun K hK => ?stepz95) AllReadyH.nil
                          case haz95 => (simp only [List.getElem?_toArray, List.getElem?_cons_succ, List.getElem?_cons_zero]; exact rfl)
                          go_simp
                          refine (plus_sm _ _ S1 S2 _ OS1.ints OS2.ints (mul_sm HSA.out x 0 0) (mul_sm HSB.out x 1 0)).mono ?_
                          rintro e y3 ⟨S3, rfl, hS3, sb⟩
                          have sS3 := hS3.isSl
                          have hk := hHeld.below sb
                          have OS3 := hS3
                          have OS3 := OS3.low (B' := w.heap.size) (Nat.le_trans HBQ.out.size BEL.size)
                          have BEL := Below.chain BEL sb
                          clear hS3 sb
                          go_wp2_with fail
                          refine hK.out _ _ (hk) (fun hHeld => ?_)
                          clear hK K
                          try simp only [Act.put, List.setIfInBounds_toArray, List.set_cons_zero, List.set_cons_succ]
                          refine' wpAnyH_take (i := 21) (oi := ?oiz94) (v := ?vz94) ?haz94 (by kernel_rfl) ?hfz94 ?hrz94 ?hQz94 (Or.inl ⟨?hwz94, ?hyz94⟩) (by assumption) ?restz94
                          case haz94 => (simp only [List.getElem?_toArray, List.getElem?_cons_succ, List.getElem?_cons_zero]; exact rfl)
                          case hQz94 => exact fun _ _ _ h => h
                          case hfz94 => kernel_rfl
                          case hrz94 => kernel_rfl
                          case hwz94 => rfl
                          case hyz94 => (intro w hSw; (try dsimp only at hSw); have e0 := hSw _ _ co nco; have e1 := hSw _ _ a0 na; have e2 := hSw _ _ a1 na; have e3 := hSw _ _ b0 nb; have e4 := hSw _ _ b1 nb; have e5 := hSw _ _ m0 nm; have e6 := hSw _ _ m1 nm; have e7 := hSw _ _ m4 nm; have e8 := hSw _ _ m5 nm; go_simp; (try with_reducible rfl))
                          try simp only [Act.put, List.setIfInBounds_toArray, List.set_cons_zero, List.set_cons_succ]
                          refine wpAnyH_ready (rs := [22]) (by kernel_rfl) (by simp) ?_
                          refine' AllReadyH.cons (o := ?oiz93) ?haz93 (fun K hK => ?stepz93) AllReadyH.nil
                          case haz93 => (simp only [List.getElem?_toArray, List.getElem?_cons_succ, List.getElem?_cons_zero]; exact rfl)
                          have hm4 := HPQ.out.below BEL
                          obtain ⟨us4, hr4⟩ := hm4.row r (by rw [List.length_set, HML'.out]; exact hrn)
                          rw [HRW.out] at hr4
                          have hl4 := HLEN.out
                          have z0 := hr4.read.low (j := p) (by omega)
                          have z1 := hr4.read.c (j := p) (by omega)
                          have f0 := hr4.frozen0 (j := p) (by omega)
                          have f1 := hr4.frozen1 (j := p) (by omega)
                          have z1' : ∀ x, (World.setCell y3 (vat row (p * 2)) x).cell? (vat row (p * 2 + 1)) = some (nthv us4 p) := fun x => by rw [cell_other _ _ (by omega)]; exact z1
                          have f1' : ∀ x, (World.setCell y3 (vat row (p * 2)) x).frozen? (vat row (p * 2 + 1)) = false := fun x => by rw [frozen_other]; exact f1
                          clear hr4
                          go_simp
                          refine hK.out _ _ (Keeps.set (p := vat row (p * 2 + 1)) (Keeps.set (p := vat row (p * 2)) hHeld rfl _) rfl _) (fun hHeld => ?_)
                          clear hK K
                          try simp only [Act.put, List.setIfInBounds_toArray, List.set_cons_zero, List.set_cons_succ]
                          refine wpAnyH_done (by kernel_rfl) ?_ _
                          have hwl : w.heap.size ≤ vblk row := (HR1.out.blk (by rw [HRL.out]; omega)).1
                          have hset := (HPQ.out.below BEL).set (i := r) (j := p) (q := bent x A B 0) (u := S3) (by rw [List.length_set, HML'.out]; exact hrn) (by rw [HLEN.out]; omega) OS3
                          rw [HRW.out, rst_step0 (by rw [HML'.out]; exact hrn)] at hset
                          have hb5 := ((HBQ.out.trans (BEL.mono HBQ.out.size)).setCell (p := vat row (p * 2)) hwl (.int .i64 (bent x A B 0).low)).setCell (p := vat row (p * 2 + 1)) hwl S3
                          have hk5 := Keeps.set (p := vat row (p * 2 + 1)) (Keeps.set (p := vat row (p * 2)) (HKQ.out.below BEL) hRr (.int .i64 (bent x A B 0).low)) hRr S3
                          have hs5 : wc.heap.size ≤ y3.heap.size := Nat.le_trans hsq BEL.size
                          have HSET := Lib.hid hset; have HB5 := Lib.hid hb5; have HK5 := Lib.hid hk5
                          clear hset hb5 hk5 OS1 OS2 OS3 BEL
                          go_wp2_with fail
                          go_roundw
                          case rel => exact ⟨1, by omega, by go_num, HSET.out, HB5.out, HK5.out, by simp; exact hs5⟩
                          case measure => simp [intOf]
                        · skip
                          go_wp2_with fail
                          refine wp_region_held_drew (S := Keeps wq (fun k => k = vblk row)) (by kernel_rfl) (Keeps.drew (Keeps.refl _ _)) (fun hHeld => ?_)
                          have BEL : Below wq.heap.size wq wq.drew := (Below.refl _ _).drew
                          obtain ⟨y0, hy0⟩ : ∃ y0, y0 = wq.drew := ⟨_, rfl⟩
                          rw [← hy0] at hHeld BEL ⊢
                          clear hy0
                          refine' wpAnyH_take (i := 0) (oi := ?oiz98) (v := ?vz98) ?haz98 (by kernel_rfl) ?hfz98 ?hrz98 ?hQz98 (Or.inl ⟨?hwz98, ?hyz98⟩) (by assumption) ?restz98
                          case haz98 => (simp only [List.getElem?_toArray, List.getElem?_cons_zero]; exact rfl)
                          case hQz98 => exact fun _ _ _ h => h
                          case hfz98 => kernel_rfl
                          case hrz98 => kernel_rfl
                          case hwz98 => rfl
                          case hyz98 => (intro w hSw; (try dsimp only at hSw); have e0 := hSw _ _ co nco; have e1 := hSw _ _ a0 na; have e2 := hSw _ _ a1 na; have e3 := hSw _ _ b0 nb; have e4 := hSw _ _ b1 nb; have e5 := hSw _ _ m2 nm; have e6 := hSw _ _ m3 nm; have e7 := hSw _ _ m6 nm; have e8 := hSw _ _ m7 nm; go_simp; (try with_reducible rfl))
                          try simp only [Act.put, List.setIfInBounds_toArray, List.set_cons_zero, List.set_cons_succ]
                          refine' wpAnyH_take (i := 1) (oi := ?oiz99) (v := ?vz99) ?haz99 (by kernel_rfl) ?hfz99 ?hrz99 ?hQz99 (Or.inl ⟨?hwz99, ?hyz99⟩) (by assumption) ?restz99
                          case haz99 => (simp only [List.getElem?_toArray, List.getElem?_cons_succ, List.getElem?_cons_zero]; exact rfl)
                          case hQz99 => exact fun _ _ _ h => h
                          case hfz99 => kernel_rfl
                          case hrz99 => kernel_rfl
                          case hwz99 => rfl
                          case hyz99 => (intro w hSw; (try dsimp only at hSw); have e0 := hSw _ _ co nco; have e1 := hSw _ _ a0 na; have e2 := hSw _ _ a1 na; have e3 := hSw _ _ b0 nb; have e4 := hSw _ _ b1 nb; have e5 := hSw _ _ m2 nm; have e6 := hSw _ _ m3 nm; have e7 := hSw _ _ m6 nm; have e8 := hSw _ _ m7 nm; go_simp; (try with_reducible rfl))
                          try simp only [Act.put, List.setIfInBounds_toArray, List.set_cons_zero, List.set_cons_succ]
                          refine' wpAnyH_take (i := 2) (oi := ?oiz100) (v := ?vz100) ?haz100 (by kernel_rfl) ?hfz100 ?hrz100 ?hQz100 (Or.inl ⟨?hwz100, ?hyz100⟩) (by assumption) ?restz100
                          case haz100 => (simp only [List.getElem?_toArray, List.getElem?_cons_succ, List.getElem?_cons_zero]; exact rfl)
                          case hQz100 => exact fun _ _ _ h => h
                          case hfz100 => kernel_rfl
                          case hrz100 => kernel_rfl
                          case hwz100 => rfl
                          case hyz100 => (intro w hSw; (try dsimp only at hSw); have e0 := hSw _ _ co nco; have e1 := hSw _ _ a0 na; have e2 := hSw _ _ a1 na; have e3 := hSw _ _ b0 nb; have e4 := hSw _ _ b1 nb; have e5 := hSw _ _ m2 nm; have e6 := hSw _ _ m3 nm; have e7 := hSw _ _ m6 nm; have e8 := hSw _ _ m7 nm; go_simp; (try with_reducible rfl))
                          try simp only [Act.put, List.setIfInBounds_toArray, List.set_cons_zero, List.set_cons_succ]
                          refine' wpAnyH_take (i := 3) (oi := ?oiz101) (v := ?vz101) ?haz101 (by kernel_rfl) ?hfz101 ?hrz101 ?hQz101 (Or.inl ⟨?hwz101, ?hyz101⟩) (by assumption) ?restz101
                          case haz101 => (simp only [List.getElem?_toArray, List.getElem?_cons_succ, List.getElem?_cons_zero]; exact rfl)
                          case hQz101 => exact fun _ _ _ h => h
                          case hfz101 => kernel_rfl
                          case hrz101 => kernel_rfl
                          case hwz101 => rfl
                          case hyz101 => (intro w hSw; (try dsimp only at hSw); have e0 := hSw _ _ co nco; have e1 := hSw _ _ a0 na; have e2 := hSw _ _ a1 na; have e3 := hSw _ _ b0 nb; have e4 := hSw _ _ b1 nb; have e5 := hSw _ _ m2 nm; have e6 := hSw _ _ m3 nm; have e7 := hSw _ _ m6 nm; have e8 := hSw _ _ m7 nm; go_simp; (try with_reducible rfl))
                          try simp only [Act.put, List.setIfInBounds_toArray, List.set_cons_zero, List.set_cons_succ]
                          refine' wpAnyH_take (i := 4) (oi := ?oiz102) (v := ?vz102) ?haz102 (by kernel_rfl) ?hfz102 ?hrz102 ?hQz102 (Or.inl ⟨?hwz102, ?hyz102⟩) (by assumption) ?restz102
                          case haz102 => (simp only [List.getElem?_toArray, List.getElem?_cons_succ, List.getElem?_cons_zero]; exact rfl)
                          case hQz102 => exact fun _ _ _ h => h
                          case hfz102 => kernel_rfl
                          case hrz102 => kernel_rfl
                          case hwz102 => rfl
                          case hyz102 => (intro w hSw; (try dsimp only at hSw); have e0 := hSw _ _ co nco; have e1 := hSw _ _ a0 na; have e2 := hSw _ _ a1 na; have e3 := hSw _ _ b0 nb; have e4 := hSw _ _ b1 nb; have e5 := hSw _ _ m2 nm; have e6 := hSw _ _ m3 nm; have e7 := hSw _ _ m6 nm; have e8 := hSw _ _ m7 nm; go_simp; (try with_reducible rfl))
                          try simp only [Act.put, List.setIfInBounds_toArray, List.set_cons_zero, List.set_cons_succ]
                          refine' wpAnyH_take (i := 5) (oi := ?oiz103) (v := ?vz103) ?haz103 (by kernel_rfl) ?hfz103 ?hrz103 ?hQz103 (Or.inl ⟨?hwz103, ?hyz103⟩) (by assumption) ?restz103
                          case haz103 => (simp only [List.getElem?_toArray, List.getElem?_cons_succ, List.getElem?_cons_zero]; exact rfl)
                          case hQz103 => exact fun _ _ _ h => h
                          case hfz103 => kernel_rfl
                          case hrz103 => kernel_rfl
                          case hwz103 => rfl
                          case hyz103 => (intro w hSw; (try dsimp only at hSw); have e0 := hSw _ _ co nco; have e1 := hSw _ _ a0 na; have e2 := hSw _ _ a1 na; have e3 := hSw _ _ b0 nb; have e4 := hSw _ _ b1 nb; have e5 := hSw _ _ m2 nm; have e6 := hSw _ _ m3 nm; have e7 := hSw _ _ m6 nm; have e8 := hSw _ _ m7 nm; go_simp; (try with_reducible rfl))
                          try simp only [Act.put, List.setIfInBounds_toArray, List.set_cons_zero, List.set_cons_succ]
                          refine' wpAnyH_take (i := 6) (oi := ?oiz104) (v := ?vz104) ?haz104 (by kernel_rfl) ?hfz104 ?hrz104 ?hQz104 (Or.inl ⟨?hwz104, ?hyz104⟩) (by assumption) ?restz104
                          case haz104 => (simp only [List.getElem?_toArray, List.getElem?_cons_succ, List.getElem?_cons_zero]; exact rfl)
                          case hQz104 => exact fun _ _ _ h => h
                          case hfz104 => kernel_rfl
                          case hrz104 => kernel_rfl
                          case hwz104 => rfl
                          case hyz104 => (intro w hSw; (try dsimp only at hSw); have e0 := hSw _ _ co nco; have e1 := hSw _ _ a0 na; have e2 := hSw _ _ a1 na; have e3 := hSw _ _ b0 nb; have e4 := hSw _ _ b1 nb; have e5 := hSw _ _ m2 nm; have e6 := hSw _ _ m3 nm; have e7 := hSw _ _ m6 nm; have e8 := hSw _ _ m7 nm; go_simp; (try with_reducible rfl))
                          try simp only [Act.put, List.setIfInBounds_toArray, List.set_cons_zero, List.set_cons_succ]
                          refine' wpAnyH_take (i := 7) (oi := ?oiz105) (v := ?vz105) ?haz105 (by kernel_rfl) ?hfz105 ?hrz105 ?hQz105 (Or.inl ⟨?hwz105, ?hyz105⟩) (by assumption) ?restz105
                          case haz105 => (simp only [List.getElem?_toArray, List.getElem?_cons_succ, List.getElem?_cons_zero]; exact rfl)
                          case hQz105 => exact fun _ _ _ h => h
                          case hfz105 => kernel_rfl
                          case hrz105 => kernel_rfl
                          case hwz105 => rfl
                          case hyz105 => (intro w hSw; (try dsimp only at hSw); have e0 := hSw _ _ co nco; have e1 := hSw _ _ a0 na; have e2 := hSw _ _ a1 na; have e3 := hSw _ _ b0 nb; have e4 := hSw _ _ b1 nb; have e5 := hSw _ _ m2 nm; have e6 := hSw _ _ m3 nm; have e7 := hSw _ _ m6 nm; have e8 := hSw _ _ m7 nm; go_simp; (try with_reducible rfl))
                          try simp only [Act.put, List.setIfInBounds_toArray, List.set_cons_zero, List.set_cons_succ]
                          refine' wpAnyH_take (i := 8) (oi := ?oiz106) (v := ?vz106) ?haz106 (by kernel_rfl) ?hfz106 ?hrz106 ?hQz106 (Or.inl ⟨?hwz106, ?hyz106⟩) (by assumption) ?restz106
                          case haz106 => (simp only [List.getElem?_toArray, List.getElem?_cons_succ, List.getElem?_cons_zero]; exact rfl)
                          case hQz106 => exact fun _ _ _ h => h
                          case hfz106 => kernel_rfl
                          case hrz106 => kernel_rfl
                          case hwz106 => rfl
                          case hyz106 => (intro w hSw; (try dsimp only at hSw); have e0 := hSw _ _ co nco; have e1 := hSw _ _ a0 na; have e2 := hSw _ _ a1 na; have e3 := hSw _ _ b0 nb; have e4 := hSw _ _ b1 nb; have e5 := hSw _ _ m2 nm; have e6 := hSw _ _ m3 nm; have e7 := hSw _ _ m6 nm; have e8 := hSw _ _ m7 nm; go_simp; (try with_reducible rfl))
                          try simp only [Act.put, List.setIfInBounds_toArray, List.set_cons_zero, List.set_cons_succ]
                          refine' wpAnyH_take (i := 9) (oi := ?oiz107) (v := ?vz107) ?haz107 (by kernel_rfl) ?hfz107 ?hrz107 ?hQz107 (Or.inl ⟨?hwz107, ?hyz107⟩) (by assumption) ?restz107
                          case haz107 => (simp only [List.getElem?_toArray, List.getElem?_cons_succ, List.getElem?_cons_zero]; exact rfl)
                          case hQz107 => exact fun _ _ _ h => h
                          case hfz107 => kernel_rfl
                          case hrz107 => kernel_rfl
                          case hwz107 => rfl
                          case hyz107 => (intro w hSw; (try dsimp only at hSw); have e0 := hSw _ _ co nco; have e1 := hSw _ _ a0 na; have e2 := hSw _ _ a1 na; have e3 := hSw _ _ b0 nb; have e4 := hSw _ _ b1 nb; have e5 := hSw _ _ m2 nm; have e6 := hSw _ _ m3 nm; have e7 := hSw _ _ m6 nm; have e8 := hSw _ _ m7 nm; go_simp; (try with_reducible rfl))
                          try simp only [Act.put, List.setIfInBounds_toArray, List.set_cons_zero, List.set_cons_succ]
                          refine' wpAnyH_take (i := 10) (oi := ?oiz108) (v := ?vz108) ?haz108 (by kernel_rfl) ?hfz108 ?hrz108 ?hQz108 (Or.inl ⟨?hwz108, ?hyz108⟩) (by assumption) ?restz108
                          case haz108 => (simp only [List.getElem?_toArray, List.getElem?_cons_succ, List.getElem?_cons_zero]; exact rfl)
                          case hQz108 => exact fun _ _ _ h => h
                          case hfz108 => kernel_rfl
                          case hrz108 => kernel_rfl
                          case hwz108 => rfl
                          case hyz108 => (intro w hSw; (try dsimp only at hSw); have e0 := hSw _ _ co nco; have e1 := hSw _ _ a0 na; have e2 := hSw _ _ a1 na; have e3 := hSw _ _ b0 nb; have e4 := hSw _ _ b1 nb; have e5 := hSw _ _ m2 nm; have e6 := hSw _ _ m3 nm; have e7 := hSw _ _ m6 nm; have e8 := hSw _ _ m7 nm; go_simp; (try with_reducible rfl))
                          try simp only [Act.put, List.setIfInBounds_toArray, List.set_cons_zero, List.set_cons_succ]
                          refine' wpAnyH_take (i := 11) (oi := ?oiz109) (v := ?vz109) ?haz109 (by kernel_rfl) ?hfz109 ?hrz109 ?hQz109 (Or.inl ⟨?hwz109, ?hyz109⟩) (by assumption) ?restz109
                          case haz109 => (simp only [List.getElem?_toArray, List.getElem?_cons_succ, List.getElem?_cons_zero]; exact rfl)
                          case hQz109 => exact fun _ _ _ h => h
                          case hfz109 => kernel_rfl
                          case hrz109 => kernel_rfl
                          case hwz109 => rfl
                          case hyz109 => (intro w hSw; (try dsimp only at hSw); have e0 := hSw _ _ co nco; have e1 := hSw _ _ a0 na; have e2 := hSw _ _ a1 na; have e3 := hSw _ _ b0 nb; have e4 := hSw _ _ b1 nb; have e5 := hSw _ _ m2 nm; have e6 := hSw _ _ m3 nm; have e7 := hSw _ _ m6 nm; have e8 := hSw _ _ m7 nm; go_simp; (try with_reducible rfl))
                          try simp only [Act.put, List.setIfInBounds_toArray, List.set_cons_zero, List.set_cons_succ]
                          refine' wpAnyH_take (i := 12) (oi := ?oiz110) (v := ?vz110) ?haz110 (by kernel_rfl) ?hfz110 ?hrz110 ?hQz110 (Or.inl ⟨?hwz110, ?hyz110⟩) (by assumption) ?restz110
                          case haz110 => (simp only [List.getElem?_toArray, List.getElem?_cons_succ, List.getElem?_cons_zero]; exact rfl)
                          case hQz110 => exact fun _ _ _ h => h
                          case hfz110 => kernel_rfl
                          case hrz110 => kernel_rfl
                          case hwz110 => rfl
                          case hyz110 => (intro w hSw; (try dsimp only at hSw); have e0 := hSw _ _ co nco; have e1 := hSw _ _ a0 na; have e2 := hSw _ _ a1 na; have e3 := hSw _ _ b0 nb; have e4 := hSw _ _ b1 nb; have e5 := hSw _ _ m2 nm; have e6 := hSw _ _ m3 nm; have e7 := hSw _ _ m6 nm; have e8 := hSw _ _ m7 nm; go_simp; (try with_reducible rfl))
                          try simp only [Act.put, List.setIfInBounds_toArray, List.set_cons_zero, List.set_cons_succ]
                          refine' wpAnyH_take (i := 14) (oi := ?oiz111) (v := ?vz111) ?haz111 (by kernel_rfl) ?hfz111 ?hrz111 ?hQz111 (Or.inl ⟨?hwz111, ?hyz111⟩) (by assumption) ?restz111
                          case haz111 => (simp only [List.getElem?_toArray, List.getElem?_cons_succ, List.getElem?_cons_zero]; exact rfl)
                          case hQz111 => exact fun _ _ _ h => h
                          case hfz111 => kernel_rfl
                          case hrz111 => kernel_rfl
                          case hwz111 => rfl
                          case hyz111 => (intro w hSw; (try dsimp only at hSw); have e0 := hSw _ _ co nco; have e1 := hSw _ _ a0 na; have e2 := hSw _ _ a1 na; have e3 := hSw _ _ b0 nb; have e4 := hSw _ _ b1 nb; have e5 := hSw _ _ m2 nm; have e6 := hSw _ _ m3 nm; have e7 := hSw _ _ m6 nm; have e8 := hSw _ _ m7 nm; go_simp; (try with_reducible rfl))
                          try simp only [Act.put, List.setIfInBounds_toArray, List.set_cons_zero, List.set_cons_succ]
                          refine' wpAnyH_take (i := 15) (oi := ?oiz112) (v := ?vz112) ?haz112 (by kernel_rfl) ?hfz112 ?hrz112 ?hQz112 (Or.inl ⟨?hwz112, ?hyz112⟩) (by assumption) ?restz112
                          case haz112 => (simp only [List.getElem?_toArray, List.getElem?_cons_succ, List.getElem?_cons_zero]; exact rfl)
                          case hQz112 => exact fun _ _ _ h => h
                          case hfz112 => kernel_rfl
                          case hrz112 => kernel_rfl
                          case hwz112 => rfl
                          case hyz112 => (intro w hSw; (try dsimp only at hSw); have e0 := hSw _ _ co nco; have e1 := hSw _ _ a0 na; have e2 := hSw _ _ a1 na; have e3 := hSw _ _ b0 nb; have e4 := hSw _ _ b1 nb; have e5 := hSw _ _ m2 nm; have e6 := hSw _ _ m3 nm; have e7 := hSw _ _ m6 nm; have e8 := hSw _ _ m7 nm; go_simp; (try with_reducible rfl))
                          try simp only [Act.put, List.setIfInBounds_toArray, List.set_cons_zero, List.set_cons_succ]
                          refine' wpAnyH_take (i := 16) (oi := ?oiz113) (v := ?vz113) ?haz113 (by kernel_rfl) ?hfz113 ?hrz113 ?hQz113 (Or.inl ⟨?hwz113, ?hyz113⟩) (by assumption) ?restz113
                          case haz113 => (simp only [List.getElem?_toArray, List.getElem?_cons_succ, List.getElem?_cons_zero]; exact rfl)
                          case hQz113 => exact fun _ _ _ h => h
                          case hfz113 => kernel_rfl
                          case hrz113 => kernel_rfl
                          case hwz113 => rfl
                          case hyz113 => (intro w hSw; (try dsimp only at hSw); have e0 := hSw _ _ co nco; have e1 := hSw _ _ a0 na; have e2 := hSw _ _ a1 na; have e3 := hSw _ _ b0 nb; have e4 := hSw _ _ b1 nb; have e5 := hSw _ _ m2 nm; have e6 := hSw _ _ m3 nm; have e7 := hSw _ _ m6 nm; have e8 := hSw _ _ m7 nm; go_simp; (try with_reducible rfl))
                          try simp only [Act.put, List.setIfInBounds_toArray, List.set_cons_zero, List.set_cons_succ]
                          refine' wpAnyH_take (i := 17) (oi := ?oiz114) (v := ?vz114) ?haz114 (by kernel_rfl) ?hfz114 ?hrz114 ?hQz114 (Or.inl ⟨?hwz114, ?hyz114⟩) (by assumption) ?restz114
                          case haz114 => (simp only [List.getElem?_toArray, List.getElem?_cons_succ, List.getElem?_cons_zero]; exact rfl)
                          case hQz114 => exact fun _ _ _ h => h
                          case hfz114 => kernel_rfl
                          case hrz114 => kernel_rfl
                          case hwz114 => rfl
                          case hyz114 => (intro w hSw; (try dsimp only at hSw); have e0 := hSw _ _ co nco; have e1 := hSw _ _ a0 na; have e2 := hSw _ _ a1 na; have e3 := hSw _ _ b0 nb; have e4 := hSw _ _ b1 nb; have e5 := hSw _ _ m2 nm; have e6 := hSw _ _ m3 nm; have e7 := hSw _ _ m6 nm; have e8 := hSw _ _ m7 nm; go_simp; (try with_reducible rfl))
                          try simp only [Act.put, List.setIfInBounds_toArray, List.set_cons_zero, List.set_cons_succ]
                          refine' wpAnyH_take (i := 18) (oi := ?oiz115) (v := ?vz115) ?haz115 (by kernel_rfl) ?hfz115 ?hrz115 ?hQz115 (Or.inl ⟨?hwz115, ?hyz115⟩) (by assumption) ?restz115
                          case haz115 => (simp only [List.getElem?_toArray, List.getElem?_cons_succ, List.getElem?_cons_zero]; exact rfl)
                          case hQz115 => exact fun _ _ _ h => h
                          case hfz115 => kernel_rfl
                          case hrz115 => kernel_rfl
                          case hwz115 => rfl
                          case hyz115 => (intro w hSw; (try dsimp only at hSw); have e0 := hSw _ _ co nco; have e1 := hSw _ _ a0 na; have e2 := hSw _ _ a1 na; have e3 := hSw _ _ b0 nb; have e4 := hSw _ _ b1 nb; have e5 := hSw _ _ m2 nm; have e6 := hSw _ _ m3 nm; have e7 := hSw _ _ m6 nm; have e8 := hSw _ _ m7 nm; go_simp; (try with_reducible rfl))
                          try simp only [Act.put, List.setIfInBounds_toArray, List.set_cons_zero, List.set_cons_succ]
                          refine wpAnyH_ready (rs := [13]) (by kernel_rfl) (by simp) ?_
                          refine' AllReadyH.cons (o := ?oiz120) ?haz120 (fun K hK => ?stepz120) AllReadyH.nil
                          case haz120 => (simp only [List.getElem?_toArray, List.getElem?_cons_succ, List.getElem?_cons_zero]; exact rfl)
                          go_simp
                          refine (times_sm A (bm x 0 1) ua u01 _ (HIA.out.below BEL) (HI01.out.below BEL) HSA.out (bm_sm x 0 1)).mono ?_
                          rintro e y1 ⟨S1, rfl, hS1, sb⟩
                          have sS1 := hS1.isSl
                          have hk := hHeld.below sb
                          have OS1 := hS1
                          have BEL := Below.chain BEL sb
                          clear hS1 sb
                          go_wp2_with fail
                          refine hK.out _ _ (hk) (fun hHeld => ?_)
                          clear hK K
                          try simp only [Act.put, List.setIfInBounds_toArray, List.set_cons_zero, List.set_cons_succ]
                          refine wpAnyH_ready (rs := [19]) (by kernel_rfl) (by simp) ?_
                          refine' AllReadyH.cons (o := ?oiz119) ?haz119 (fun K hK => ?stepz119) AllReadyH.nil
                          case haz119 => (simp only [List.getElem?_toArray, List.getElem?_cons_succ, List.getElem?_cons_zero]; exact rfl)
                          go_simp
                          refine (times_sm B (bm x 1 1) ub u11 _ (HIB.out.below BEL) (HI11.out.below BEL) HSB.out (bm_sm x 1 1)).mono ?_
                          rintro e y2 ⟨S2, rfl, hS2, sb⟩
                          have sS2 := hS2.isSl
                          have hk := hHeld.below sb
                          have OS2 := hS2
                          have OS1 := OS1.below sb
                          have BEL := Below.chain BEL sb
                          clear hS2 sb
                          go_wp2_with fail
                          refine hK.out _ _ (hk) (fun hHeld => ?_)
                          clear hK K
                          try simp only [Act.put, List.setIfInBounds_toArray, List.set_cons_zero, List.set_cons_succ]
                          refine wpAnyH_ready (rs := [20]) (by kernel_rfl) (by simp) ?_
                          refine' AllReadyH.cons (o := ?oiz118) ?haz118 (fun K hK => ?stepz118) AllReadyH.nil
                          case haz118 => (simp only [List.getElem?_toArray, List.getElem?_cons_succ, List.getElem?_cons_zero]; exact rfl)
                          go_simp
                          refine (plus_sm _ _ S1 S2 _ OS1.ints OS2.ints (mul_sm HSA.out x 0 1) (mul_sm HSB.out x 1 1)).mono ?_
                          rintro e y3 ⟨S3, rfl, hS3, sb⟩
                          have sS3 := hS3.isSl
                          have hk := hHeld.below sb
                          have OS3 := hS3
                          have OS3 := OS3.low (B' := w.heap.size) (Nat.le_trans HBQ.out.size BEL.size)
                          have BEL := Below.chain BEL sb
                          clear hS3 sb
                          go_wp2_with fail
                          refine hK.out _ _ (hk) (fun hHeld => ?_)
                          clear hK K
                          try simp only [Act.put, List.setIfInBounds_toArray, List.set_cons_zero, List.set_cons_succ]
                          refine' wpAnyH_take (i := 21) (oi := ?oiz117) (v := ?vz117) ?haz117 (by kernel_rfl) ?hfz117 ?hrz117 ?hQz117 (Or.inl ⟨?hwz117, ?hyz117⟩) (by assumption) ?restz117
                          case haz117 => (simp only [List.getElem?_toArray, List.getElem?_cons_succ, List.getElem?_cons_zero]; exact rfl)
                          case hQz117 => exact fun _ _ _ h => h
                          case hfz117 => kernel_rfl
                          case hrz117 => kernel_rfl
                          case hwz117 => rfl
                          case hyz117 => (intro w hSw; (try dsimp only at hSw); have e0 := hSw _ _ co nco; have e1 := hSw _ _ a0 na; have e2 := hSw _ _ a1 na; have e3 := hSw _ _ b0 nb; have e4 := hSw _ _ b1 nb; have e5 := hSw _ _ m2 nm; have e6 := hSw _ _ m3 nm; have e7 := hSw _ _ m6 nm; have e8 := hSw _ _ m7 nm; go_simp; (try with_reducible rfl))
                          try simp only [Act.put, List.setIfInBounds_toArray, List.set_cons_zero, List.set_cons_succ]
                          refine wpAnyH_ready (rs := [22]) (by kernel_rfl) (by simp) ?_
                          refine' AllReadyH.cons (o := ?oiz116) ?haz116 (fun K hK => ?stepz116) AllReadyH.nil
                          case haz116 => (simp only [List.getElem?_toArray, List.getElem?_cons_succ, List.getElem?_cons_zero]; exact rfl)
                          have hm4 := HPQ.out.below BEL
                          obtain ⟨us4, hr4⟩ := hm4.row r (by rw [List.length_set, HML'.out]; exact hrn)
                          rw [HRW.out] at hr4
                          have hl4 := HLEN.out
                          have z0 := hr4.read.low (j := (p + 1)) (by omega)
                          have z1 := hr4.read.c (j := (p + 1)) (by omega)
                          have f0 := hr4.frozen0 (j := (p + 1)) (by omega)
                          have f1 := hr4.frozen1 (j := (p + 1)) (by omega)
                          have z1' : ∀ x, (World.setCell y3 (vat row ((p + 1) * 2)) x).cell? (vat row ((p + 1) * 2 + 1)) = some (nthv us4 (p + 1)) := fun x => by rw [cell_other _ _ (by omega)]; exact z1
                          have f1' : ∀ x, (World.setCell y3 (vat row ((p + 1) * 2)) x).frozen? (vat row ((p + 1) * 2 + 1)) = false := fun x => by rw [frozen_other]; exact f1
                          clear hr4
                          go_simp
                          refine hK.out _ _ (Keeps.set (p := vat row ((p + 1) * 2 + 1)) (Keeps.set (p := vat row ((p + 1) * 2)) hHeld rfl _) rfl _) (fun hHeld => ?_)
                          clear hK K
                          try simp only [Act.put, List.setIfInBounds_toArray, List.set_cons_zero, List.set_cons_succ]
                          refine wpAnyH_done (by kernel_rfl) ?_ _
                          have hwl : w.heap.size ≤ vblk row := (HR1.out.blk (by rw [HRL.out]; omega)).1
                          have hset := (HPQ.out.below BEL).set (i := r) (j := (p + 1)) (q := bent x A B 1) (u := S3) (by rw [List.length_set, HML'.out]; exact hrn) (by rw [HLEN.out]; omega) OS3
                          rw [HRW.out, rst_step1 (by rw [HML'.out]; exact hrn)] at hset
                          have hb5 := ((HBQ.out.trans (BEL.mono HBQ.out.size)).setCell (p := vat row ((p + 1) * 2)) hwl (.int .i64 (bent x A B 1).low)).setCell (p := vat row ((p + 1) * 2 + 1)) hwl S3
                          have hk5 := Keeps.set (p := vat row ((p + 1) * 2 + 1)) (Keeps.set (p := vat row ((p + 1) * 2)) (HKQ.out.below BEL) hRr (.int .i64 (bent x A B 1).low)) hRr S3
                          have hs5 : wc.heap.size ≤ y3.heap.size := Nat.le_trans hsq BEL.size
                          have HSET := Lib.hid hset; have HB5 := Lib.hid hb5; have HK5 := Lib.hid hk5
                          clear hset hb5 hk5 OS1 OS2 OS3 BEL
                          go_wp2_with fail
                          go_roundw
                          case rel => exact ⟨2, by omega, by go_num, HSET.out, HB5.out, HK5.out, by simp; exact hs5⟩
                          case measure => simp [intOf]
                      · obtain rfl : k = 2 := by omega
                        have hfin : M'.set r (rst x p (nthm M' r) A B 2) = (M.take (r + 1)).map (brow x) ++ M.drop (r + 1) := by
                          rw [← HHA.out, ← HHB.out, rst_last hp, HROW'.out, ← HM'.out]
                          exact rows_next (brow x) M r (by rw [HML.out]; exact hrn)
                        rw [hfin] at hpq
                        have HF := Lib.hid hpq
                        have HKK := Lib.hid ((HKZ.out.below HBE.out).trans hkq)
                        clear hpq hbq hkq hfin HPQ
                        go_wp2_with fail
                        go_roundw
                        case rel => exact ⟨r + 1, by omega, by go_num, HF.out, HBQ.out, HKK.out, by omega⟩
                        case measure => simp [intOf]; omega
                · obtain rfl : r = n := by omega
                  have hfin : (M.take r).map (brow x) ++ M.drop r = burauM r (xs.take (m + 1)) := by
                    rw [List.take_of_length_le (by rw [HML.out]; exact Nat.le_refl _), List.drop_eq_nil_of_le (by rw [HML.out]; exact Nat.le_refl _), List.append_nil, burauM_succ r xs hmx, HHM.out, HXE.out]
                  rw [hfin] at hpz
                  have HF := Lib.hid hpz; have HBZ := Lib.hid hbz
                  have HKK := Lib.hid ((HKE.out.below HRc.out).trans hkz)
                  clear hpz hbz hkz hfin
                  go_wp2_with fail
                  go_roundw
                  case rel => exact ⟨m + 1, by omega, by go_num, HF.out, HBZ.out, HKK.out, by omega⟩
                  case measure => simp [intOf]; omega
        · obtain rfl : m = xs.length := by omega
          rw [List.take_length] at hpm
          have HF := Lib.hid hpm; have HBZ := Lib.hid hbb
          clear hpm hbb hke
          go_wp2_with fail
          go_ret
          exact ⟨_, vs, rfl, HF.out, hvs, HBZ.out⟩

end Go.Proofs.Ytplekfgadbjgdaa


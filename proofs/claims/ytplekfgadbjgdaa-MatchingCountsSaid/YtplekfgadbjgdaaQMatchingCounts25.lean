/- temperleylieb.Put, walked. -/
import Derived.Test.YtplekfgadbjgdaaQMatchingCounts0
import Derived.Test.YtplekfgadbjgdaaQMatchingCounts1
import Derived.Test.YtplekfgadbjgdaaQMatchingCounts10
import Derived.Test.YtplekfgadbjgdaaQMatchingCounts11
import Derived.Test.YtplekfgadbjgdaaQMatchingCounts12
import Derived.Test.YtplekfgadbjgdaaQMatchingCounts13
import Derived.Test.YtplekfgadbjgdaaQMatchingCounts14
import Derived.Test.YtplekfgadbjgdaaQMatchingCounts15
import Derived.Test.YtplekfgadbjgdaaQMatchingCounts16
import Derived.Test.YtplekfgadbjgdaaQMatchingCounts17
import Derived.Test.YtplekfgadbjgdaaQMatchingCounts18
import Derived.Test.YtplekfgadbjgdaaQMatchingCounts19
import Derived.Test.YtplekfgadbjgdaaQMatchingCounts20
import Derived.Test.YtplekfgadbjgdaaQMatchingCounts21
import Derived.Test.YtplekfgadbjgdaaQMatchingCounts22
import Derived.Test.YtplekfgadbjgdaaQMatchingCounts23
import Derived.Test.YtplekfgadbjgdaaQMatchingCounts24
import Derived.Deep.RegionLaw
import Derived.RangeFuncNested
import Derived.RangeFuncBound
import Derived.RangeFuncCalls
import Derived.RangeFuncLeaves
import Derived.RangeFuncBox
import Derived.Shelf.Abstract
import Derived.Shelf.RegionOpen
import Derived.OwnWalkIn
import Derived.TacticsInMore
import Derived.LoopNIn
import Derived.LoopIn
import Derived.Maps.AppendAt
namespace Go.Proofs.Ytplekfgadbjgdaa
open Go.RowKit Go.Sl
open Go.TL (lnAt addLn tlWalk tlLoops find putLines putEnds putL pnt)

theorem addLn_length (L : List (List Nat)) (a b : Nat) : (addLn L a b).length = L.length := by simp [addLn]
theorem addLn_rows (L : List (List Nat)) (a b j : Nat) : (lnAt (addLn L a b) j).length ≤ (lnAt L j).length + 2 := by
  have key : ∀ (M : List (List Nat)) (c x : Nat), (lnAt (M.set c (lnAt M c ++ [x])) j).length ≤ (lnAt M j).length + 1 := fun M c x => by
    rcases Nat.lt_or_ge j M.length with h | h
    · rw [lnAt_set h]
      split
      · rename_i e; rw [e]; simp
      · omega
    · rw [lnAt_ge (by simpa using h)]; simp
  have h1 := key L a b
  have h2 := key (L.set a (lnAt L a ++ [b])) b a
  unfold addLn; omega
theorem putLines_length (n : Nat) (A B : List Nat) (i : Nat) : (putLines n A B i).length = 3 * n := by
  induction i with
  | zero => simp [putLines]
  | succ i ih =>
    rw [putLines]
    split <;> split <;> simp only [addLn_length, ih]
theorem putLines_rows (n : Nat) (A B : List Nat) (i j : Nat) : (lnAt (putLines n A B i) j).length ≤ 4 * i := by
  induction i with
  | zero =>
    have : lnAt (putLines n A B 0) j = [] := by unfold lnAt putLines; rw [List.getD_eq_getElem?_getD, List.getElem?_replicate]; split <;> rfl
    rw [this]; simp
  | succ i ih =>
    rw [putLines]
    have k1 := fun L a b => addLn_rows L a b j
    have hX : (lnAt (if i < A.getD i 0 then addLn (putLines n A B i) i (A.getD i 0) else putLines n A B i) j).length ≤ (lnAt (putLines n A B i) j).length + 2 := by
      split
      · exact k1 _ _ _
      · omega
    generalize (if i < A.getD i 0 then addLn (putLines n A B i) i (A.getD i 0) else putLines n A B i) = X at hX ⊢
    split
    · have := k1 X (n + i) (n + B.getD i 0); omega
    · omega
theorem getD_iz {A : List Nat} {i : Nat} (h : i < A.length) : nth (iz A) i = ((A.getD i 0 : Nat) : Int) := by
  rw [nth_iz h, List.getD_eq_getElem?_getD, List.getElem?_eq_getElem h]; rfl
theorem iz_set (xs : List Nat) (i x : Nat) : iz (xs.set i x) = (iz xs).set i (x : Int) := by unfold iz; rw [List.map_set]; rfl
section
variable {W : World} {B g C : Nat} {mv : Value} {vs : List Value} {L : List (List Nat)}
theorem GW.far (h : GW W B g mv vs L) (hlo : LowG C g mv vs) {p : Addr} (hp : C ≤ p.block) (x : Value) : GW (W.setCell p x) B g mv vs L :=
  ⟨(Below.heap_setCell W p x g (by have := hlo.1; omega)).trans h.box, h.own.setOther (fun k hk e => by have := hlo.2.1 k hk; omega) _, h.len,
    fun i hi => (h.row i hi).setOther (fun k hk e => by have := hlo.2.2 i (by rw [h.len]; exact hi) k hk; omega) _, h.each, h.ge⟩
theorem GW.lowAt (h : GW W B g mv vs L) : LowG W.heap.size g mv vs :=
  ⟨h.lt, fun k hk => (h.own.lt k hk).2, fun i hi k hk => ((h.row i (by rw [← h.len]; exact hi)).lt k hk).2⟩
end
theorem OwnI.keep {W V : World} {C : Nat} {u : Value} {xs : List Int} (h : OwnI W C u xs) (hk : KeepC C W V) : OwnI V C u xs := Go.Sl.Own.of_block h fun k hk2 => hk.2 k (h.lt k hk2).1 (h.lt k hk2).2

set_option maxRecDepth 100000 in
theorem point_calls (n p b : Nat) (W : World) (hc : W.cell? ⟨b, 0, none⟩ = some (.int .i64 n)) (hn : n ≤ 100) (hp : p ≤ 300) :
    Calls Try.prog 139 #[.int .i64 p, .pointer (some ⟨b, 0, none⟩)] W fun e w' => e = .returned (.int .i64 (pnt n p : Nat)) ∧ W = w' := by
  by_cases h : n ≤ p
  · have e : ((pnt n p : Nat) : Int) = (p : Int) - (n : Int) := by unfold pnt; rw [if_pos h]; omega
    have HE := Lib.hid e
    clear e
    go_enter Try.func139, Try.ntmps139
    go_wp2_with fail
    go_ret
    exact ⟨by rw [HE.out]; rfl, rfl⟩
  · have e : ((pnt n p : Nat) : Int) = (p : Int) := by unfold pnt; rw [if_neg h]
    have HE := Lib.hid e
    clear e
    go_enter Try.func139, Try.ntmps139
    go_wp2_with fail
    go_ret
    exact ⟨by rw [HE.out]; rfl, rfl⟩

set_option maxRecDepth 100000 in
set_option maxHeartbeats 8000000 in
theorem put_calls (n : Nat) (A Q : List Nat) (va vb : Value) (w : World) (ha : Ints w va (iz A)) (hb : Ints w vb (iz Q)) (hn1 : 1 ≤ n) (hn6 : n ≤ 6) (hA : A.length = 2 * n) (hQ : Q.length = 2 * n)
    (hAb : ∀ i, i < 2 * n → A.getD i 0 < 2 * n) (hQb : ∀ i, i < 2 * n → Q.getD i 0 < 2 * n) (O : List Nat) (C : Nat) (hput : putL n A Q = some (O, C)) (hrows : ∀ j, (lnAt (putLines n A Q (2 * n)) j).length ≤ 2) :
    Calls Try.prog 107 #[.int .i64 n, va, vb] w fun e w' => ∃ u, e = .returned (.tuple #[u, .int .i64 (C : Nat)]) ∧ OwnI w' w.heap.size u (iz O) ∧ Below w.heap.size w w' := by
  have sa := ha.isSl
  have sb := hb.isSl
  have la := ha.len
  have lb := hb.len
  rw [iz_length, hA] at la
  rw [iz_length, hQ] at lb
  obtain ⟨N2, hN2⟩ : ∃ N2, 2 * n = N2 := ⟨_, rfl⟩
  obtain ⟨N3, hN3⟩ : ∃ N3, 3 * n = N3 := ⟨_, rfl⟩
  have hN2b : N2 ≤ 12 := by omega
  have hN3b : N3 ≤ 18 := by omega
  have hi2 : (2 : Int) * (n : Int) = (N2 : Int) := by omega
  have hi3 : (3 : Int) * (n : Int) = (N3 : Int) := by omega
  have hi3' : (n : Int) * 3 = (N3 : Int) := by omega
  obtain ⟨W1, hW1⟩ : ∃ W1, W1 = w.alloc (.cells #[.int .i64 n] 3) := ⟨_, rfl⟩
  have z1 : W1.heap.size = w.heap.size + 1 := by rw [hW1]; simp
  have b1 : Below w.heap.size w W1 := by rw [hW1]; exact (Below.refl _ _).alloc (Nat.le_refl _) _
  have box1 : W1.cell? ⟨w.heap.size, 0, none⟩ = some (.int .i64 n) := by rw [hW1]; unfold World.cell?; rw [heap_alloc_new w]; rfl
  have HA := Lib.hid ha; have HQ := Lib.hid hb; have HPUT := Lib.hid hput; have HROWS := Lib.hid hrows; have HAB := Lib.hid hAb; have HQB := Lib.hid hQb; have HB1 := Lib.hid b1
  have HAL := Lib.hid hA; have HQL := Lib.hid hQ; have HN2 := Lib.hid hN2; have HN3 := Lib.hid hN3; have HW1 := Lib.hid hW1.symm
  clear ha hb hput hrows hAb hQb b1 hA hQ hN2 hN3 hW1
  go_enter Try.func107, Try.ntmps107
  go_wp2_with fail
  rw [HW1.out]
  refine (newGraph_calls N3 W1 (by omega) (by omega)).mono ?_
  rintro e W2 ⟨g, mv, vs0, rfl, hg, hb⟩
  obtain ⟨B, hB⟩ : ∃ B, W1.heap.size = B := ⟨_, rfl⟩
  rw [hB] at hg hb
  have hbx : w.heap.size < B := by omega
  have HG := Lib.hid hg; have HB2 := Lib.hid (HB1.out.trans (hb.mono (by omega)))
  have hbox2 : ∀ V, Below B W2 V → V.cell? ⟨w.heap.size, 0, none⟩ = some (.int .i64 n) := fun V hV => by
    have h1 : W1.cell? ⟨w.heap.size, 0, none⟩ = some (.int .i64 n) := box1
    have h2 := (hb.trans hV)
    rw [h2.cell (p := ⟨w.heap.size, 0, none⟩) hbx]; exact h1
  have HBOX := Lib.hid hbox2
  have smv := hg.own.1
  have hw0 : ∀ V, Below B W2 V → Below w.heap.size w V := fun V hV => HB2.out.trans (hV.mono (by omega))
  have HW0 := Lib.hid hw0
  have hpl0 : GW W2 B g mv vs0 (putLines n A Q 0) := by show GW W2 B g mv vs0 (List.replicate (3 * n) []); rw [HN3.out]; exact hg
  have HP0 := Lib.hid hpl0
  have c3 := hbox2 W2 (Below.refl _ _)
  clear hg hb hbox2 hw0 hpl0 box1 HB1 HW1
  go_wp2_with fail
  clear c3
  go_loopw [19] (fun i wr => ∃ (k : Nat) (vs : List Value), k ≤ N2 ∧ i = .int .i64 k ∧ GW wr B g mv vs (putLines n A Q k) ∧ Below B W2 wr) (fun i _ => N2 - (intOf i).toNat)
  case atStart => exact ⟨0, vs0, Nat.zero_le _, rfl, HP0.out, Below.refl _ _⟩
  case round =>
    rename World => W
    obtain ⟨k, vs, hk, rfl, hg, hbr⟩ := hrel
    by_cases hlt : k < N2
    · have hkA : k < A.length := by rw [HAL.out, HN2.out]; exact hlt
      have hkQ : k < Q.length := by rw [HQL.out, HN2.out]; exact hlt
      have ca := (HA.out.below (HW0.out _ hbr)).cell (k := k) (by rw [iz_length]; exact hkA)
      rw [getD_iz hkA] at ca
      have hab := HAB.out k (by rw [HN2.out]; exact hlt)
      rw [HN2.out] at hab
      have hqb := HQB.out k (by rw [HN2.out]; exact hlt)
      rw [HN2.out] at hqb
      have cb := HBOX.out _ hbr
      have hlen := putLines_length n A Q k
      have hrw := fun j => putLines_rows n A Q k j
      have hstep : putLines n A Q (k + 1) = (if k < Q.getD k 0 then addLn (if k < A.getD k 0 then addLn (putLines n A Q k) k (A.getD k 0) else putLines n A Q k) (n + k) (n + Q.getD k 0) else (if k < A.getD k 0 then addLn (putLines n A Q k) k (A.getD k 0) else putLines n A Q k)) := rfl
      obtain ⟨L, hL⟩ : ∃ L, putLines n A Q k = L := ⟨_, rfl⟩
      rw [hL] at hg hlen hrw hstep
      have cq := fun V (hV : Below B W2 V) => (HQ.out.below (HW0.out _ hV)).cell (k := k) (by rw [iz_length]; exact hkQ)
      rw [getD_iz hkQ] at cq
      obtain ⟨x, hx⟩ : ∃ x, A.getD k 0 = x := ⟨_, rfl⟩
      obtain ⟨y, hy⟩ : ∃ y, Q.getD k 0 = y := ⟨_, rfl⟩
      rw [hx] at ca hab hstep
      rw [hy] at hqb hstep cq
      have HG1 := Lib.hid hg; have HST := Lib.hid hstep; have HRW := Lib.hid hrw; have HLEN := Lib.hid hlen; have HBR := Lib.hid hbr; have HCQ := Lib.hid cq
      clear hg hstep hrw hlen hbr hx hy hL cq
      by_cases h1 : k < x
      · rw [if_pos h1] at HST
        by_cases h2 : k < y
        · rw [if_pos h2] at HST
          go_wp2_with fail
          refine (line_calls k x B g mv vs L W HG1.out (by rw [HLEN.out]; omega) (by rw [HLEN.out]; omega) (fun j => by have := HRW.out j; omega)).mono ?_
          rintro e V ⟨rfl, ⟨vs1, hg1⟩, hb1⟩
          have hbV := HBR.out.trans hb1
          have HG2 := Lib.hid hg1; have HBV := Lib.hid hbV
          have HR2 := Lib.hid (fun j => addLn_rows L k x j)
          have cb2 := HBOX.out _ hbV
          have cq2 := HCQ.out _ hbV
          clear hg1 hb1 hbV ca cb
          have hc2 := line_calls (n + k) (n + y) B g mv vs1 (addLn L k x) V.drew (HG2.out.below (Below.refl _ _).drew) (by rw [addLn_length, HLEN.out]; omega) (by rw [addLn_length, HLEN.out]; omega) (fun j => by have h1 := HRW.out j; have h2 := HR2.out j; omega)
          rw [Int.natCast_add, Int.natCast_add] at hc2
          have HC2 := Lib.hid hc2
          have cb3 : V.drew.cell? ⟨w.heap.size, 0, none⟩ = some (.int .i64 n) := cb2
          have cq3 : V.drew.cell? (vat vb k) = some (.int .i64 y) := cq2
          have hwr1 : IntKind.i64.wrap ((n : Int) + (k : Int)) = (n : Int) + (k : Int) := IntWalk.i64_in _ ⟨by omega, by omega⟩
          have hwr2 : IntKind.i64.wrap ((n : Int) + (y : Int)) = (n : Int) + (y : Int) := IntWalk.i64_in _ ⟨by omega, by omega⟩
          clear hc2
          go_wp2_with fail
          refine wp_region_held_drew (S := fun W => W.cell? ⟨w.heap.size, 0, none⟩ = some (.int .i64 n) ∧ W.cell? (vat vb k) = some (.int .i64 y)) (by kernel_rfl) (⟨cb3, cq3⟩) (fun hHeld => ?_)
          refine' wpAnyH_take (i := 0) (oi := ?oiz1) (v := ?vz1) ?haz1 (by kernel_rfl) ?hfz1 ?hrz1 ?hQz1 (Or.inl ⟨?hwz1, ?hyz1⟩) (by assumption) ?restz1
          case haz1 => (simp only [List.getElem?_toArray, List.getElem?_cons_zero]; exact rfl)
          case hQz1 => exact fun _ _ _ h => h
          case hfz1 => kernel_rfl
          case hrz1 => kernel_rfl
          case hwz1 => rfl
          case hyz1 => (intro w hSw; (try dsimp only at hSw); obtain ⟨e0, e1⟩ := hSw; go_simp; (try with_reducible rfl))
          try simp only [Act.put, List.setIfInBounds_toArray, List.set_cons_zero, List.set_cons_succ]
          refine' wpAnyH_take (i := 1) (oi := ?oiz2) (v := ?vz2) ?haz2 (by kernel_rfl) ?hfz2 ?hrz2 ?hQz2 (Or.inl ⟨?hwz2, ?hyz2⟩) (by assumption) ?restz2
          case haz2 => (simp only [List.getElem?_toArray, List.getElem?_cons_succ, List.getElem?_cons_zero]; exact rfl)
          case hQz2 => exact fun _ _ _ h => h
          case hfz2 => kernel_rfl
          case hrz2 => kernel_rfl
          case hwz2 => rfl
          case hyz2 => (intro w hSw; (try dsimp only at hSw); obtain ⟨e0, e1⟩ := hSw; go_simp; (try with_reducible rfl))
          try simp only [Act.put, List.setIfInBounds_toArray, List.set_cons_zero, List.set_cons_succ]
          refine' wpAnyH_take (i := 2) (oi := ?oiz3) (v := ?vz3) ?haz3 (by kernel_rfl) ?hfz3 ?hrz3 ?hQz3 (Or.inl ⟨?hwz3, ?hyz3⟩) (by assumption) ?restz3
          case haz3 => (simp only [List.getElem?_toArray, List.getElem?_cons_succ, List.getElem?_cons_zero]; exact rfl)
          case hQz3 => exact fun _ _ _ h => h
          case hfz3 => kernel_rfl
          case hrz3 => kernel_rfl
          case hwz3 => rfl
          case hyz3 => (intro w hSw; (try dsimp only at hSw); obtain ⟨e0, e1⟩ := hSw; go_simp; (try with_reducible rfl))
          try simp only [Act.put, List.setIfInBounds_toArray, List.set_cons_zero, List.set_cons_succ]
          refine' wpAnyH_take (i := 3) (oi := ?oiz4) (v := ?vz4) ?haz4 (by kernel_rfl) ?hfz4 ?hrz4 ?hQz4 (Or.inl ⟨?hwz4, ?hyz4⟩) (by assumption) ?restz4
          case haz4 => (simp only [List.getElem?_toArray, List.getElem?_cons_succ, List.getElem?_cons_zero]; exact rfl)
          case hQz4 => exact fun _ _ _ h => h
          case hfz4 => kernel_rfl
          case hrz4 => kernel_rfl
          case hwz4 => rfl
          case hyz4 => (intro w hSw; (try dsimp only at hSw); obtain ⟨e0, e1⟩ := hSw; go_simp; (try with_reducible rfl))
          try simp only [Act.put, List.setIfInBounds_toArray, List.set_cons_zero, List.set_cons_succ]
          refine' wpAnyH_take (i := 4) (oi := ?oiz5) (v := ?vz5) ?haz5 (by kernel_rfl) ?hfz5 ?hrz5 ?hQz5 (Or.inl ⟨?hwz5, ?hyz5⟩) (by assumption) ?restz5
          case haz5 => (simp only [List.getElem?_toArray, List.getElem?_cons_succ, List.getElem?_cons_zero]; exact rfl)
          case hQz5 => exact fun _ _ _ h => h
          case hfz5 => kernel_rfl
          case hrz5 => kernel_rfl
          case hwz5 => rfl
          case hyz5 => (intro w hSw; (try dsimp only at hSw); obtain ⟨e0, e1⟩ := hSw; go_simp; (try with_reducible rfl))
          try simp only [Act.put, List.setIfInBounds_toArray, List.set_cons_zero, List.set_cons_succ]
          refine' wpAnyH_take (i := 5) (oi := ?oiz6) (v := ?vz6) ?haz6 (by kernel_rfl) ?hfz6 ?hrz6 ?hQz6 (Or.inl ⟨?hwz6, ?hyz6⟩) (by assumption) ?restz6
          case haz6 => (simp only [List.getElem?_toArray, List.getElem?_cons_succ, List.getElem?_cons_zero]; exact rfl)
          case hQz6 => exact fun _ _ _ h => h
          case hfz6 => kernel_rfl
          case hrz6 => kernel_rfl
          case hwz6 => rfl
          case hyz6 => (intro w hSw; (try dsimp only at hSw); obtain ⟨e0, e1⟩ := hSw; go_simp; (try with_reducible rfl))
          try simp only [Act.put, List.setIfInBounds_toArray, List.set_cons_zero, List.set_cons_succ]
          refine' wpAnyH_take (i := 6) (oi := ?oiz7) (v := ?vz7) ?haz7 (by kernel_rfl) ?hfz7 ?hrz7 ?hQz7 (Or.inl ⟨?hwz7, ?hyz7⟩) (by assumption) ?restz7
          case haz7 => (simp only [List.getElem?_toArray, List.getElem?_cons_succ, List.getElem?_cons_zero]; exact rfl)
          case hQz7 => exact fun _ _ _ h => h
          case hfz7 => kernel_rfl
          case hrz7 => kernel_rfl
          case hwz7 => rfl
          case hyz7 => (intro w hSw; (try dsimp only at hSw); obtain ⟨e0, e1⟩ := hSw; go_simp; (try with_reducible rfl))
          try simp only [Act.put, List.setIfInBounds_toArray, List.set_cons_zero, List.set_cons_succ]
          refine' wpAnyH_take (i := 7) (oi := ?oiz8) (v := ?vz8) ?haz8 (by kernel_rfl) ?hfz8 ?hrz8 ?hQz8 (Or.inl ⟨?hwz8, ?hyz8⟩) (by assumption) ?restz8
          case haz8 => (simp only [List.getElem?_toArray, List.getElem?_cons_succ, List.getElem?_cons_zero]; exact rfl)
          case hQz8 => exact fun _ _ _ h => h
          case hfz8 => kernel_rfl
          case hrz8 => kernel_rfl
          case hwz8 => rfl
          case hyz8 => (intro w hSw; (try dsimp only at hSw); obtain ⟨e0, e1⟩ := hSw; go_simp; (try with_reducible rfl))
          try simp only [Act.put, List.setIfInBounds_toArray, List.set_cons_zero, List.set_cons_succ]
          refine' wpAnyH_take (i := 8) (oi := ?oiz9) (v := ?vz9) ?haz9 (by kernel_rfl) ?hfz9 ?hrz9 ?hQz9 (Or.inl ⟨?hwz9, ?hyz9⟩) (by assumption) ?restz9
          case haz9 => (simp only [List.getElem?_toArray, List.getElem?_cons_succ, List.getElem?_cons_zero]; exact rfl)
          case hQz9 => exact fun _ _ _ h => h
          case hfz9 => kernel_rfl
          case hrz9 => kernel_rfl
          case hwz9 => rfl
          case hyz9 => (intro w hSw; (try dsimp only at hSw); obtain ⟨e0, e1⟩ := hSw; go_simp; (try with_reducible rfl))
          try simp only [Act.put, List.setIfInBounds_toArray, List.set_cons_zero, List.set_cons_succ]
          refine' wpAnyH_take (i := 9) (oi := ?oiz10) (v := ?vz10) ?haz10 (by kernel_rfl) ?hfz10 ?hrz10 ?hQz10 (Or.inl ⟨?hwz10, ?hyz10⟩) (by assumption) ?restz10
          case haz10 => (simp only [List.getElem?_toArray, List.getElem?_cons_succ, List.getElem?_cons_zero]; exact rfl)
          case hQz10 => exact fun _ _ _ h => h
          case hfz10 => kernel_rfl
          case hrz10 => kernel_rfl
          case hwz10 => rfl
          case hyz10 => (intro w hSw; (try dsimp only at hSw); obtain ⟨e0, e1⟩ := hSw; go_simp; (try with_reducible rfl))
          try simp only [Act.put, List.setIfInBounds_toArray, List.set_cons_zero, List.set_cons_succ]
          refine wpAnyH_ready (rs := [10]) (by kernel_rfl) (by simp) ?_
          refine' AllReadyH.cons (o := ?oiz11) ?haz11 (fun K hK => ?stepz11) AllReadyH.nil
          case haz11 => (simp only [List.getElem?_toArray, List.getElem?_cons_succ, List.getElem?_cons_zero]; exact rfl)
          go_simp
          go_at_call 137
          refine HC2.out.mono ?_
          rintro e Z ⟨rfl, ⟨vs2, hg2⟩, hb2⟩
          have hbZ := HBV.out.drew.trans hb2
          have cb4 := HBOX.out _ hbZ
          have cq4 := HCQ.out _ hbZ
          have HG3 := Lib.hid hg2; have HB3 := Lib.hid hbZ
          clear hg2 hb2 HC2 hbZ
          refine hK.out _ _ (⟨cb4, cq4⟩) (fun hHeld => ?_)
          clear hK K
          try simp only [Act.put, List.setIfInBounds_toArray, List.set_cons_zero, List.set_cons_succ]
          refine wpAnyH_done (by kernel_rfl) ?_ _
          go_wp2_with fail
          go_roundw
          case rel => exact ⟨k + 1, vs2, by omega, by go_num, by rw [HST.out]; exact HG3.out, HB3.out⟩
          case measure => simp [intOf]; omega
        · rw [if_neg h2] at HST
          go_wp2_with fail
          refine (line_calls k x B g mv vs L W HG1.out (by rw [HLEN.out]; omega) (by rw [HLEN.out]; omega) (fun j => by have := HRW.out j; omega)).mono ?_
          rintro e V ⟨rfl, ⟨vs1, hg1⟩, hb1⟩
          have hbV := HBR.out.trans hb1
          have HG2 := Lib.hid hg1; have HBV := Lib.hid hbV
          have HR2 := Lib.hid (fun j => addLn_rows L k x j)
          have cb2 := HBOX.out _ hbV
          have cq2 := HCQ.out _ hbV
          clear hg1 hb1 hbV ca cb
          go_wp2_with fail
          go_roundw
          case rel => exact ⟨k + 1, vs1, by omega, by go_num, by rw [HST.out]; exact HG2.out, HBV.out⟩
          case measure => simp [intOf]; omega
      · rw [if_neg h1] at HST
        by_cases h2 : k < y
        · rw [if_pos h2] at HST
          have cq2 := HCQ.out _ HBR.out
          have cb2 := cb
          have hc2 := line_calls (n + k) (n + y) B g mv vs L W.drew (HG1.out.below (Below.refl _ _).drew) (by rw [HLEN.out]; omega) (by rw [HLEN.out]; omega) (fun j => by have := HRW.out j; omega)
          rw [Int.natCast_add, Int.natCast_add] at hc2
          have HC2 := Lib.hid hc2
          have cb3 : W.drew.cell? ⟨w.heap.size, 0, none⟩ = some (.int .i64 n) := cb2
          have cq3 : W.drew.cell? (vat vb k) = some (.int .i64 y) := cq2
          have hwr1 : IntKind.i64.wrap ((n : Int) + (k : Int)) = (n : Int) + (k : Int) := IntWalk.i64_in _ ⟨by omega, by omega⟩
          have hwr2 : IntKind.i64.wrap ((n : Int) + (y : Int)) = (n : Int) + (y : Int) := IntWalk.i64_in _ ⟨by omega, by omega⟩
          clear hc2
          go_wp2_with fail
          refine wp_region_held_drew (S := fun W => W.cell? ⟨w.heap.size, 0, none⟩ = some (.int .i64 n) ∧ W.cell? (vat vb k) = some (.int .i64 y)) (by kernel_rfl) (⟨cb3, cq3⟩) (fun hHeld => ?_)
          refine' wpAnyH_take (i := 0) (oi := ?oiz12) (v := ?vz12) ?haz12 (by kernel_rfl) ?hfz12 ?hrz12 ?hQz12 (Or.inl ⟨?hwz12, ?hyz12⟩) (by assumption) ?restz12
          case haz12 => (simp only [List.getElem?_toArray, List.getElem?_cons_zero]; exact rfl)
          case hQz12 => exact fun _ _ _ h => h
          case hfz12 => kernel_rfl
          case hrz12 => kernel_rfl
          case hwz12 => rfl
          case hyz12 => (intro w hSw; (try dsimp only at hSw); obtain ⟨e0, e1⟩ := hSw; go_simp; (try with_reducible rfl))
          try simp only [Act.put, List.setIfInBounds_toArray, List.set_cons_zero, List.set_cons_succ]
          refine' wpAnyH_take (i := 1) (oi := ?oiz13) (v := ?vz13) ?haz13 (by kernel_rfl) ?hfz13 ?hrz13 ?hQz13 (Or.inl ⟨?hwz13, ?hyz13⟩) (by assumption) ?restz13
          case haz13 => (simp only [List.getElem?_toArray, List.getElem?_cons_succ, List.getElem?_cons_zero]; exact rfl)
          case hQz13 => exact fun _ _ _ h => h
          case hfz13 => kernel_rfl
          case hrz13 => kernel_rfl
          case hwz13 => rfl
          case hyz13 => (intro w hSw; (try dsimp only at hSw); obtain ⟨e0, e1⟩ := hSw; go_simp; (try with_reducible rfl))
          try simp only [Act.put, List.setIfInBounds_toArray, List.set_cons_zero, List.set_cons_succ]
          refine' wpAnyH_take (i := 2) (oi := ?oiz14) (v := ?vz14) ?haz14 (by kernel_rfl) ?hfz14 ?hrz14 ?hQz14 (Or.inl ⟨?hwz14, ?hyz14⟩) (by assumption) ?restz14
          case haz14 => (simp only [List.getElem?_toArray, List.getElem?_cons_succ, List.getElem?_cons_zero]; exact rfl)
          case hQz14 => exact fun _ _ _ h => h
          case hfz14 => kernel_rfl
          case hrz14 => kernel_rfl
          case hwz14 => rfl
          case hyz14 => (intro w hSw; (try dsimp only at hSw); obtain ⟨e0, e1⟩ := hSw; go_simp; (try with_reducible rfl))
          try simp only [Act.put, List.setIfInBounds_toArray, List.set_cons_zero, List.set_cons_succ]
          refine' wpAnyH_take (i := 3) (oi := ?oiz15) (v := ?vz15) ?haz15 (by kernel_rfl) ?hfz15 ?hrz15 ?hQz15 (Or.inl ⟨?hwz15, ?hyz15⟩) (by assumption) ?restz15
          case haz15 => (simp only [List.getElem?_toArray, List.getElem?_cons_succ, List.getElem?_cons_zero]; exact rfl)
          case hQz15 => exact fun _ _ _ h => h
          case hfz15 => kernel_rfl
          case hrz15 => kernel_rfl
          case hwz15 => rfl
          case hyz15 => (intro w hSw; (try dsimp only at hSw); obtain ⟨e0, e1⟩ := hSw; go_simp; (try with_reducible rfl))
          try simp only [Act.put, List.setIfInBounds_toArray, List.set_cons_zero, List.set_cons_succ]
          refine' wpAnyH_take (i := 4) (oi := ?oiz16) (v := ?vz16) ?haz16 (by kernel_rfl) ?hfz16 ?hrz16 ?hQz16 (Or.inl ⟨?hwz16, ?hyz16⟩) (by assumption) ?restz16
          case haz16 => (simp only [List.getElem?_toArray, List.getElem?_cons_succ, List.getElem?_cons_zero]; exact rfl)
          case hQz16 => exact fun _ _ _ h => h
          case hfz16 => kernel_rfl
          case hrz16 => kernel_rfl
          case hwz16 => rfl
          case hyz16 => (intro w hSw; (try dsimp only at hSw); obtain ⟨e0, e1⟩ := hSw; go_simp; (try with_reducible rfl))
          try simp only [Act.put, List.setIfInBounds_toArray, List.set_cons_zero, List.set_cons_succ]
          refine' wpAnyH_take (i := 5) (oi := ?oiz17) (v := ?vz17) ?haz17 (by kernel_rfl) ?hfz17 ?hrz17 ?hQz17 (Or.inl ⟨?hwz17, ?hyz17⟩) (by assumption) ?restz17
          case haz17 => (simp only [List.getElem?_toArray, List.getElem?_cons_succ, List.getElem?_cons_zero]; exact rfl)
          case hQz17 => exact fun _ _ _ h => h
          case hfz17 => kernel_rfl
          case hrz17 => kernel_rfl
          case hwz17 => rfl
          case hyz17 => (intro w hSw; (try dsimp only at hSw); obtain ⟨e0, e1⟩ := hSw; go_simp; (try with_reducible rfl))
          try simp only [Act.put, List.setIfInBounds_toArray, List.set_cons_zero, List.set_cons_succ]
          refine' wpAnyH_take (i := 6) (oi := ?oiz18) (v := ?vz18) ?haz18 (by kernel_rfl) ?hfz18 ?hrz18 ?hQz18 (Or.inl ⟨?hwz18, ?hyz18⟩) (by assumption) ?restz18
          case haz18 => (simp only [List.getElem?_toArray, List.getElem?_cons_succ, List.getElem?_cons_zero]; exact rfl)
          case hQz18 => exact fun _ _ _ h => h
          case hfz18 => kernel_rfl
          case hrz18 => kernel_rfl
          case hwz18 => rfl
          case hyz18 => (intro w hSw; (try dsimp only at hSw); obtain ⟨e0, e1⟩ := hSw; go_simp; (try with_reducible rfl))
          try simp only [Act.put, List.setIfInBounds_toArray, List.set_cons_zero, List.set_cons_succ]
          refine' wpAnyH_take (i := 7) (oi := ?oiz19) (v := ?vz19) ?haz19 (by kernel_rfl) ?hfz19 ?hrz19 ?hQz19 (Or.inl ⟨?hwz19, ?hyz19⟩) (by assumption) ?restz19
          case haz19 => (simp only [List.getElem?_toArray, List.getElem?_cons_succ, List.getElem?_cons_zero]; exact rfl)
          case hQz19 => exact fun _ _ _ h => h
          case hfz19 => kernel_rfl
          case hrz19 => kernel_rfl
          case hwz19 => rfl
          case hyz19 => (intro w hSw; (try dsimp only at hSw); obtain ⟨e0, e1⟩ := hSw; go_simp; (try with_reducible rfl))
          try simp only [Act.put, List.setIfInBounds_toArray, List.set_cons_zero, List.set_cons_succ]
          refine' wpAnyH_take (i := 8) (oi := ?oiz20) (v := ?vz20) ?haz20 (by kernel_rfl) ?hfz20 ?hrz20 ?hQz20 (Or.inl ⟨?hwz20, ?hyz20⟩) (by assumption) ?restz20
          case haz20 => (simp only [List.getElem?_toArray, List.getElem?_cons_succ, List.getElem?_cons_zero]; exact rfl)
          case hQz20 => exact fun _ _ _ h => h
          case hfz20 => kernel_rfl
          case hrz20 => kernel_rfl
          case hwz20 => rfl
          case hyz20 => (intro w hSw; (try dsimp only at hSw); obtain ⟨e0, e1⟩ := hSw; go_simp; (try with_reducible rfl))
          try simp only [Act.put, List.setIfInBounds_toArray, List.set_cons_zero, List.set_cons_succ]
          refine' wpAnyH_take (i := 9) (oi := ?oiz21) (v := ?vz21) ?haz21 (by kernel_rfl) ?hfz21 ?hrz21 ?hQz21 (Or.inl ⟨?hwz21, ?hyz21⟩) (by assumption) ?restz21
          case haz21 => (simp only [List.getElem?_toArray, List.getElem?_cons_succ, List.getElem?_cons_zero]; exact rfl)
          case hQz21 => exact fun _ _ _ h => h
          case hfz21 => kernel_rfl
          case hrz21 => kernel_rfl
          case hwz21 => rfl
          case hyz21 => (intro w hSw; (try dsimp only at hSw); obtain ⟨e0, e1⟩ := hSw; go_simp; (try with_reducible rfl))
          try simp only [Act.put, List.setIfInBounds_toArray, List.set_cons_zero, List.set_cons_succ]
          refine wpAnyH_ready (rs := [10]) (by kernel_rfl) (by simp) ?_
          refine' AllReadyH.cons (o := ?oiz22) ?haz22 (fun K hK => ?stepz22) AllReadyH.nil
          case haz22 => (simp only [List.getElem?_toArray, List.getElem?_cons_succ, List.getElem?_cons_zero]; exact rfl)
          go_simp
          go_at_call 137
          refine HC2.out.mono ?_
          rintro e Z ⟨rfl, ⟨vs2, hg2⟩, hb2⟩
          have hbZ := HBR.out.drew.trans hb2
          have cb4 := HBOX.out _ hbZ
          have cq4 := HCQ.out _ hbZ
          have HG3 := Lib.hid hg2; have HB3 := Lib.hid hbZ
          clear hg2 hb2 HC2 hbZ
          refine hK.out _ _ (⟨cb4, cq4⟩) (fun hHeld => ?_)
          clear hK K
          try simp only [Act.put, List.setIfInBounds_toArray, List.set_cons_zero, List.set_cons_succ]
          refine wpAnyH_done (by kernel_rfl) ?_ _
          go_wp2_with fail
          go_roundw
          case rel => exact ⟨k + 1, vs2, by omega, by go_num, by rw [HST.out]; exact HG3.out, HB3.out⟩
          case measure => simp [intOf]; omega
        · rw [if_neg h2] at HST
          have cq2 := HCQ.out _ HBR.out
          have cb2 := cb
          go_wp2_with fail
          go_roundw
          case rel => exact ⟨k + 1, vs, by omega, by go_num, by rw [HST.out]; exact HG1.out, HBR.out⟩
          case measure => simp [intOf]; omega
    · obtain rfl : k = N2 := by omega
      have hL0 := putLines_length n A Q k
      rw [HN3.out] at hL0
      have hr0 : ∀ j, (lnAt (putLines n A Q k) j).length ≤ 2 := fun j => by have := HROWS.out j; rwa [HN2.out] at this
      have hends : ∃ LF, putEnds n N3 (putLines n A Q k) 0 (List.replicate k 0) = some (O, LF) ∧ tlLoops N3 LF 0 0 = some C := by
        have h := HPUT.out
        unfold putL at h
        rw [HN3.out, HN2.out] at h
        cases h1 : putEnds n N3 (putLines n A Q k) 0 (List.replicate k 0) with
        | none => rw [h1] at h; simp at h
        | some R =>
          rw [h1] at h
          obtain ⟨o, LF⟩ := R
          simp only at h
          cases h2 : tlLoops N3 LF 0 0 with
          | none => rw [h2] at h; simp at h
          | some c =>
            rw [h2] at h
            simp only [Option.some.injEq, Prod.mk.injEq] at h
            exact ⟨LF, by rw [h.1], by rw [h2, h.2]⟩
      obtain ⟨LF, he0, hlF⟩ := hends
      obtain ⟨L0, hLL⟩ : ∃ L0, putLines n A Q k = L0 := ⟨_, rfl⟩
      rw [hLL] at hg hL0 hr0 he0
      have hlow0 := hg.lowAt
      have cb := HBOX.out _ hbr
      have hBW : B ≤ W.heap.size := by have := hg.lt; have := hg.ge; omega
      have HG1 := Lib.hid hg; have HBR := Lib.hid hbr; have HLOW := Lib.hid hlow0; have HE0 := Lib.hid he0; have HLF := Lib.hid hlF; have HR0 := Lib.hid hr0
      clear hg hbr hlow0 he0 hlF hr0 hLL HA HQ HPUT HROWS HAB HQB HAL HQL hlt hk
      go_wp2_with (at_make; refine wpList_make rfl _ _ rfl _ _ k rfl rfl rfl rfl (by omega) ?_; intro u W3 ho3 hg3 hl3 hsz3; have su := ho3.isSl; have hb3 := below_grown_none (Below.refl _ _) hg3; have hbw3 := HBR.out.trans (hb3.mono hBW); have cb3 := HBOX.out _ hbw3; have HBW3 := Lib.hid hbw3; have HO3 := Lib.hid ho3; have HB3 := Lib.hid hb3; clear ho3 hg3 hb3 hbw3)
      obtain ⟨C0, hC0⟩ : ∃ C0, W.heap.size = C0 := ⟨_, rfl⟩
      have hg3 := HG1.out.below HB3.out
      rw [hC0] at HO3 HLOW
      have HG3 := Lib.hid hg3
      have hO3 : OwnI W3 C0 u (iz (List.replicate k 0)) := by have := HO3.out; unfold iz; rw [List.map_replicate]; exact this
      have HO4 := Lib.hid hO3
      have lu := hO3.len
      rw [iz_length, List.length_replicate] at lu
      clear hg3 hO3 HO3 HG1 cb cb3 hsz3 hl3 HB3
      have HE1 := Lib.hid (show putEnds n (N3 - 0) L0 0 (List.replicate k 0) = some (O, LF) from HE0.out)
      clear HE0
      go_loopw [59] (fun i wr => ∃ (p : Nat) (L : List (List Nat)) (vs' : List Value) (out : List Nat), p ≤ N3 ∧ i = .int .i64 p ∧ L.length = N3 ∧ putEnds n (N3 - p) L p out = some (O, LF) ∧ GW wr B g mv vs' L ∧ (∀ j, (lnAt L j).length ≤ 2) ∧ LowG C0 g mv vs' ∧ OwnI wr C0 u (iz out) ∧ out.length = k ∧ Below B W2 wr) (fun i _ => N3 - (intOf i).toNat)
      case atStart => exact ⟨0, L0, vs, _, Nat.zero_le _, rfl, hL0, HE1.out, HG3.out, HR0.out, HLOW.out, HO4.out, by simp, HBW3.out⟩
      case round =>
        rename World => V
        obtain ⟨p, L, vs', out, hp, rfl, hLN, hE, hg, hrw, hlo, ho, hol, hbr⟩ := hrel
        by_cases hlt : p < N3
        · obtain ⟨m, hm⟩ : ∃ m, N3 - p = m + 1 := ⟨N3 - p - 1, by omega⟩
          have hm2 : m = N3 - (p + 1) := by omega
          rw [hm, putEnds, hm2] at hE
          have hpL : p < L.length := by omega
          have cb := HBOX.out _ hbr
          have c0 := hg.c0
          have lmv := hg.vlen
          rw [hLN] at lmv
          have cp := hg.cell hpL
          have rp := hg.row p hpL
          obtain ⟨r, hr⟩ : ∃ r, nthv vs' p = r := ⟨_, rfl⟩
          rw [hr] at cp rp
          have sr := rp.isSl
          have lr := rp.len
          rw [iz_length] at lr
          have HG := Lib.hid hg; have HRW := Lib.hid hrw; have HLO := Lib.hid hlo; have HO := Lib.hid ho; have HOL := Lib.hid hol; have HBV := Lib.hid hbr
          by_cases hmid : p < n ∨ 2 * n ≤ p
          · rw [if_pos hmid] at hE
            cases hrow : lnAt L p with
            | nil =>
              rw [hrow] at hE lr
              replace lr : vlen r = 0 := lr
              simp only at hE
              have HE := Lib.hid hE
              clear hE hg hrw hlo ho hol hbr rp hrow hr hm hm2
              rcases hmid with hq | hq
              all_goals
                go_wp2_with fail
                go_roundw
                case rel => exact ⟨p + 1, L, vs', out, by omega, by go_num, hLN, HE.out, HG.out, HRW.out, HLO.out, HO.out, HOL.out, HBV.out⟩
                case measure => simp [intOf]; omega
            | cons x rest =>
              rw [hrow] at hE lr
              simp only at hE
              cases hwk : tlWalk 40 L p with
              | none => rw [hwk] at hE; simp at hE
              | some R =>
                obtain ⟨q, L'⟩ := R
                rw [hwk] at hE
                simp only at hE
                obtain ⟨k1, k2, k3⟩ := tlWalk_keeps _ _ _ _ _ hwk hpL
                have hL'N : L'.length = N3 := by omega
                have hL'2 : ∀ i, (lnAt L' i).length ≤ 2 := fun i => Nat.le_trans (k3 i) (hrw i)
                have hqN : q < N3 := by omega
                have hN3n := HN3.out
                have hpp : pnt n p < k := by unfold pnt; split <;> omega
                have hpq : pnt n q < k := by unfold pnt; split <;> omega
                obtain ⟨ln, hln⟩ : ∃ ln, rest.length = ln := ⟨_, rfl⟩
                replace lr : vlen r = ln + 1 := by rw [← hln]; exact lr
                have HCALL := Lib.hid (fun Z (hZ : Below V.heap.size V Z) => walk_calls p 40 B C0 g N3 mv vs' L (q, L') Z (hg.below hZ) hlt hLN (by omega) hwk hrw hlo)
                have hpt1 := fun Z (hZ : Z.cell? ⟨w.heap.size, 0, none⟩ = some (.int .i64 n)) => point_calls n p w.heap.size Z hZ (by omega) (by omega)
                have hpt2 := fun Z (hZ : Z.cell? ⟨w.heap.size, 0, none⟩ = some (.int .i64 n)) => point_calls n q w.heap.size Z hZ (by omega) (by omega)
                obtain ⟨a1, ha1⟩ : ∃ a1, pnt n p = a1 := ⟨_, rfl⟩
                obtain ⟨a2, ha2⟩ : ∃ a2, pnt n q = a2 := ⟨_, rfl⟩
                rw [ha1] at hpp hpt1 hE
                rw [ha2] at hpq hpt2 hE
                have HE := Lib.hid hE; have HL2 := Lib.hid hL'2; have HP1 := Lib.hid hpt1; have HP2 := Lib.hid hpt2
                clear hE hg hrw hlo ho hol hbr rp hrow hr hm hm2 hwk k1 k2 k3 hL'2 hln hpt1 hpt2 ha1 ha2 hN3n
                rcases hmid with hq | hq
                all_goals
                  go_wp2_with fail
                  refine (HCALL.out _ (Below.refl _ _)).mono ?_
                  rintro e Z ⟨rfl, ⟨vs2, hg2, hlo2⟩, hb2, hk2⟩
                  have hbZ := HBV.out.trans hb2
                  have cbZ := HBOX.out _ hbZ
                  have hoZ := HO.out.keep hk2
                  have f1 := hoZ.frozen (k := a1) (by rw [iz_length, HOL.out]; exact hpp)
                  have f2 := hoZ.frozen (k := a2) (by rw [iz_length, HOL.out]; exact hpq)
                  have i1 := hoZ.cell (k := a1) (by rw [iz_length, HOL.out]; exact hpp)
                  have HG2 := Lib.hid hg2; have HLO2 := Lib.hid hlo2; have HBZ := Lib.hid hbZ; have HOZ := Lib.hid hoZ
                  clear hg2 hlo2 hb2 hk2 hbZ hoZ cb c0 cp HCALL HG HBV HO
                  go_wp2_with fail
                  refine (HP1.out Z cbZ).mono ?_
                  rintro e w' ⟨rfl, rfl⟩
                  go_wp2_with fail
                  refine (HP2.out Z cbZ).mono ?_
                  rintro e w' ⟨rfl, rfl⟩
                  go_wp2_with fail
                  refine (HP2.out Z cbZ).mono ?_
                  rintro e w' ⟨rfl, rfl⟩
                  go_wp2_with fail
                  refine (HP1.out Z cbZ).mono ?_
                  rintro e w' ⟨rfl, rfl⟩
                  have ho1 := HOZ.out.set (k := a1) (by rw [iz_length, HOL.out]; exact hpp) (a2 : Int)
                  have i2 := ho1.cell (k := a2) (by rw [List.length_set, iz_length, HOL.out]; exact hpq)
                  obtain ⟨z2, hz2⟩ : ∃ z, nth ((iz out).set a1 (a2 : Int)) a2 = z := ⟨_, rfl⟩
                  rw [hz2] at i2
                  have f3 := ho1.frozen (k := a2) (by rw [List.length_set, iz_length, HOL.out]; exact hpq)
                  have ho2 := ho1.set (k := a2) (by rw [List.length_set, iz_length, HOL.out]; exact hpq) (a1 : Int)
                  rw [← iz_set, ← iz_set] at ho2
                  have hbu : C0 ≤ vblk u := (HOZ.out.lt _ (row_some (v := u) (by have := su.le; omega))).1
                  have hg3 := (HG2.out.far HLO2.out (p := vat u a1) (by rw [vat_block]; exact hbu) (.int .i64 a2)).far HLO2.out (p := vat u a2) (by rw [vat_block]; exact hbu) (.int .i64 a1)
                  have hb3 := (HBZ.out.setCell (p := vat u a1) (by rw [vat_block]; omega) (.int .i64 a2)).setCell (p := vat u a2) (by rw [vat_block]; omega) (.int .i64 a1)
                  have HG3 := Lib.hid hg3; have HB3 := Lib.hid hb3; have HO2 := Lib.hid ho2
                  clear ho1 ho2 hg3 hb3 cbZ hz2
                  go_wp2_with fail
                  go_roundw
                  case rel => exact ⟨p + 1, L', vs2, _, by omega, by go_num, hL'N, HE.out, HG3.out, HL2.out, HLO2.out, HO2.out, by simpa using HOL.out, HB3.out⟩
                  case measure => simp [intOf]; omega
          · rw [if_neg hmid] at hE
            have HE := Lib.hid hE
            have q1 : n ≤ p := by omega
            have q2 : p < 2 * n := by omega
            clear hE hg hrw hlo ho hol hbr rp hr hm hm2 hmid
            go_wp2_with fail
            go_roundw
            case rel => exact ⟨p + 1, L, vs', out, by omega, by go_num, hLN, HE.out, HG.out, HRW.out, HLO.out, HO.out, HOL.out, HBV.out⟩
            case measure => simp [intOf]; omega
        · obtain rfl : p = N3 := by omega
          rw [Nat.sub_self, putEnds] at hE
          have hE2 := Option.some.inj hE
          injection hE2 with e1 e2
          subst e1 e2
          have HL := Lib.hid (loops_calls B C0 g p C mv vs' L V hg hLN (by omega) HLF.out hrw hlo)
          have HO := Lib.hid ho; have HBV := Lib.hid hbr
          clear hE hg hrw hlo ho hbr
          go_wp2_with fail
          refine HL.out.mono ?_
          rintro e Z ⟨rfl, hb2, hk2⟩
          have hoZ := HO.out.keep hk2
          have HOZ := Lib.hid hoZ; have HBZ := Lib.hid (HW0.out _ (HBV.out.trans hb2))
          clear hb2 hk2 hoZ
          go_wp2_with fail
          go_ret2
          exact ⟨u, rfl, OwnI.low HOZ.out (by omega), HBZ.out⟩

end Go.Proofs.Ytplekfgadbjgdaa


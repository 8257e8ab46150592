/- garside.Equal walked. -/
import Derived.Test.YtnmklkjlcpgjmaaQTopWordProblem0
import Derived.Test.YtnmklkjlcpgjmaaQTopWordProblem1
import Derived.Test.YtnmklkjlcpgjmaaQTopWordProblem3
import Derived.Test.YtnmklkjlcpgjmaaQTopWordProblem5
import Derived.Test.YtnmklkjlcpgjmaaQTopWordProblem6
import Derived.Test.YtnmklkjlcpgjmaaQTopWordProblem7
import Derived.Test.YtnmklkjlcpgjmaaQTopWordProblem8
import Derived.Test.YtnmklkjlcpgjmaaQTopWordProblem9
import Derived.Test.YtnmklkjlcpgjmaaQTopWordProblem10
import Derived.Test.YtnmklkjlcpgjmaaQTopWordProblem11
import Derived.Test.YtnmklkjlcpgjmaaQTopWordProblem12
import Derived.Test.YtnmklkjlcpgjmaaQTopWordProblem13
import Derived.Test.YtnmklkjlcpgjmaaQTopWordProblem15
import Derived.Test.YtnmklkjlcpgjmaaQTopWordProblem16
import Derived.Test.YtnmklkjlcpgjmaaQTopWordProblem17
import Derived.Test.YtnmklkjlcpgjmaaQTopWordProblem18
import Derived.Test.YtnmklkjlcpgjmaaQTopWordProblem19
import Derived.Test.YtnmklkjlcpgjmaaQTopWordProblem20
import Derived.Test.YtnmklkjlcpgjmaaQTopWordProblem29
import Derived.Test.YtnmklkjlcpgjmaaQTopWordProblem30
import Derived.Test.YtnmklkjlcpgjmaaQTopWordProblem31
import Derived.Test.YtnmklkjlcpgjmaaQTopWordProblem32
import Derived.Test.YtnmklkjlcpgjmaaQTopWordProblem34
import Derived.Test.YtnmklkjlcpgjmaaQTopWordProblem35
import Derived.Test.YtnmklkjlcpgjmaaQTopWordProblem36
import Derived.Test.YtnmklkjlcpgjmaaQTopWordProblem37
import Derived.Test.YtnmklkjlcpgjmaaQTopWordProblem38
import Derived.Test.YtnmklkjlcpgjmaaQTopWordProblem39
import Derived.Test.YtnmklkjlcpgjmaaQTopWordProblem40
import Derived.Test.YtnmklkjlcpgjmaaQTopWordProblem41
import Derived.Test.YtnmklkjlcpgjmaaQTopWordProblem42
import Derived.Test.YtnmklkjlcpgjmaaQTopWordProblem43
import Derived.Test.YtnmklkjlcpgjmaaQTopWordProblem44
import Derived.Deep.RegionHeld3
namespace Go.Proofs.Ytnmklkjlcpgjmaa
open Go.RowKit Go.Sl

set_option maxRecDepth 100000 in
set_option maxHeartbeats 4000000 in
theorem gequal_calls (n : Nat) (a b : Value) (xs ys : List Int) (w : World) (ha : Ints w a xs) (hb : Ints w b ys) (h2 : 2 ≤ n) (h6 : n ≤ 6) (hx : BWord n xs) (hy : BWord n ys) (hl : xs.length ≤ 30) (hm : ys.length ≤ 30) :
    Calls Try.prog 11 #[.int .i64 n, a, b] w fun e w' => ∃ c d : St, e = .returned (.tuple #[.bool (decide (c = d)), .int .i64 0]) ∧ Cn n (mulW n (0, []) xs) c ∧ Cn n (mulW n (0, []) ys) d ∧ Below w.heap.size w w' := by
  have sa := ha.isSl
  have sb := hb.isSl
  have HCA := Lib.hid (fun W (hW : Below w.heap.size w W) => bcheck_calls n a xs W (ha.below hW) (by omega) (by omega) hx hl)
  have HCB := Lib.hid (fun W (hW : Below w.heap.size w W) => bcheck_calls n b ys W (hb.below hW) (by omega) (by omega) hy hm)
  have HA := Lib.hid ha; have HB := Lib.hid hb; have HX := Lib.hid hx; have HY := Lib.hid hy
  clear ha hb hx hy
  obtain ⟨a1, a2, a3, rfl, -⟩ := sa.cases
  obtain ⟨b1, b2, b3, rfl, -⟩ := sb.cases
  go_enter Try.func11, Try.ntmps11
  go_wp2_with fail
  go_loopw [17] (fun i wr => ∃ k : Nat, i = .int .i64 k ∧ k ≤ 2 ∧ Below (w.heap.size + 1) (w.alloc (.cells #[.slice a1 a2 a3, .slice b1 b2 b3] 22)) wr) (fun i _ => 2 - (intOf i).toNat)
  case atStart => exact ⟨0, rfl, by omega, Below.refl _ _⟩
  case round =>
    obtain ⟨k, rfl, hk, hb⟩ := hrel
    have hbw : Below w.heap.size w wr := ((Below.refl _ _).alloc (Nat.le_refl _) _).trans (hb.mono (by omega))
    have hs : ∀ j (x : Value), (#[Value.slice a1 a2 a3, .slice b1 b2 b3] : Array Value)[j]? = some x → wr.cell? ⟨w.heap.size, j, none⟩ = some x := fun j x hj => by
      rw [hb.cell (p := ⟨w.heap.size, j, none⟩) (by simp)]
      exact (cell_of_row (w.alloc (.cells #[Value.slice a1 a2 a3, .slice b1 b2 b3] 22)) w.heap.size j _ 22 (0, 0) (heap_alloc_new w _)).trans hj
    have hb0 := hs 0 _ rfl
    have hb1 := hs 1 _ rfl
    have HB0 := Lib.hid hb; have HBW := Lib.hid hbw
    clear hb hbw hs
    rcases Nat.lt_or_ge k 1 with h | h
    · obtain rfl : k = 0 := by omega
      go_wp2_with fail
      refine (HCA.out _ HBW.out).mono ?_
      rintro e w1 ⟨rfl, hbb⟩
      have HBB := Lib.hid hbb; clear hbb
      go_wp2_with fail
      go_roundw
      case rel => exact ⟨1, by go_num, by omega, HB0.out.trans (HBB.out.mono (by have := HB0.out.size; simp at this; omega))⟩
      case measure => simp [intOf]
    · rcases Nat.lt_or_ge k 2 with h' | h'
      · obtain rfl : k = 1 := by omega
        go_wp2_with fail
        refine (HCB.out _ HBW.out).mono ?_
        rintro e w1 ⟨rfl, hbb⟩
        have HBB := Lib.hid hbb; clear hbb
        go_wp2_with fail
        go_roundw
        case rel => exact ⟨2, by go_num, by omega, HB0.out.trans (HBB.out.mono (by have := HB0.out.size; simp at this; omega))⟩
        case measure => simp [intOf]
      · obtain rfl : k = 2 := by omega
        clear hb0 hb1
        go_wp2_with fail
        refine (formOf_calls n (.slice a1 a2 a3) xs _ (HA.out.below HBW.out) h2 h6 (bword_lt HX.out) hl).mono ?_
        rintro e w1 ⟨⟨p, F⟩, u, us, rfl, hcn, hf, hb1⟩
        obtain ⟨bx, hbx⟩ : ∃ b, b = wr.heap.size := ⟨_, rfl⟩
        rw [← hbx] at hf ⊢
        have HC := Lib.hid hcn; have HF := Lib.hid hf; have HB1 := Lib.hid (Below.chain HBW.out hb1); have HBX := Lib.hid (show w.heap.size ≤ bx by rw [hbx]; exact HBW.out.size)
        clear hcn hf hb1 hbx
        go_wp2_with fail
        refine (formOf_calls n (.slice b1 b2 b3) ys _ (HB.out.below HB1.out) h2 h6 (bword_lt HY.out) hm).mono ?_
        rintro e w2 ⟨⟨q, G⟩, v, vs, rfl, hcn, hf, hb2⟩
        have hff := HF.out.below hb2
        obtain ⟨by', hby⟩ : ∃ b, b = w1.heap.size := ⟨_, rfl⟩
        rw [← hby] at hf ⊢
        have c1 := hff.c1; have c2 := hff.c2; have d1 := hf.c1; have d2 := hf.c2
        simp only at c1 c2 d1 d2
        have sc := hff.rows.own.isSl; have sd := hf.rows.own.isSl
        have HD := Lib.hid hcn; have HFF := Lib.hid hff; have HG := Lib.hid hf; have HB2 := Lib.hid (Below.chain HB1.out hb2)
        clear hcn hf hff hb2 hby
        have HEF := Lib.hid (fun W (hW : Below w2.heap.size w2 W) => equalFunc_calls u v us vs F G _ (enters_some (Go.Proofs.enters_of Try.func24 (by kernel_rfl) rfl)) W (HFF.out.below hW).rows.rows (HG.out.below hW).rows.rows (fun W c d xs ys h k => equal_calls c d xs ys W h k))
        have HKE := Lib.hid (fun W (hW : Below w2.drew.heap.size w2.drew W) => (⟨(HFF.out.below ((Below.refl _ _).drew.trans hW)).c1, (HFF.out.below ((Below.refl _ _).drew.trans hW)).c2, (HG.out.below ((Below.refl _ _).drew.trans hW)).c1, (HG.out.below ((Below.refl _ _).drew.trans hW)).c2⟩ : W.cell? ⟨bx, 1, none⟩ = some (.int .i64 p) ∧ W.cell? ⟨bx, 2, none⟩ = some u ∧ W.cell? ⟨by', 1, none⟩ = some (.int .i64 q) ∧ W.cell? ⟨by', 2, none⟩ = some v))
        by_cases hpq : p = q
        · have hd : (p == q) = true := by simpa using hpq
          have hd' : decide (p = q) = true := by simpa using hpq
          go_wp2_with fail
          refine wp_region_held_drew (S := fun w => w.cell? ⟨bx, 1, none⟩ = some (.int .i64 p) ∧ w.cell? ⟨bx, 2, none⟩ = some u ∧ w.cell? ⟨by', 1, none⟩ = some (.int .i64 q) ∧ w.cell? ⟨by', 2, none⟩ = some v) (by kernel_rfl) (⟨c1, c2, d1, d2⟩) (fun hHeld => ?_)
          refine' wpAnyH_take (i := 0) (oi := ?oiz1) (v := ?vz1) ?haz1 (by kernel_rfl) ?hfz1 ?hrz1 ?hQz1 (Or.inl ⟨?hwz1, ?hyz1⟩) (by assumption) ?restz1
          case haz1 => (simp only [List.getElem?_toArray, List.getElem?_cons_zero]; exact rfl)
          case hQz1 => exact fun _ _ _ h => h
          case hfz1 => kernel_rfl
          case hrz1 => kernel_rfl
          case hwz1 => rfl
          case hyz1 => (intro w hSw; (try dsimp only at hSw); obtain ⟨e0, e1, e2, e3⟩ := hSw; go_simp; (try with_reducible rfl))
          try simp only [Act.put, List.setIfInBounds_toArray, List.set_cons_zero, List.set_cons_succ]
          refine' wpAnyH_take (i := 1) (oi := ?oiz2) (v := ?vz2) ?haz2 (by kernel_rfl) ?hfz2 ?hrz2 ?hQz2 (Or.inl ⟨?hwz2, ?hyz2⟩) (by assumption) ?restz2
          case haz2 => (simp only [List.getElem?_toArray, List.getElem?_cons_succ, List.getElem?_cons_zero]; exact rfl)
          case hQz2 => exact fun _ _ _ h => h
          case hfz2 => kernel_rfl
          case hrz2 => kernel_rfl
          case hwz2 => rfl
          case hyz2 => (intro w hSw; (try dsimp only at hSw); obtain ⟨e0, e1, e2, e3⟩ := hSw; go_simp; (try with_reducible rfl))
          try simp only [Act.put, List.setIfInBounds_toArray, List.set_cons_zero, List.set_cons_succ]
          refine' wpAnyH_take (i := 2) (oi := ?oiz3) (v := ?vz3) ?haz3 (by kernel_rfl) ?hfz3 ?hrz3 ?hQz3 (Or.inl ⟨?hwz3, ?hyz3⟩) (by assumption) ?restz3
          case haz3 => (simp only [List.getElem?_toArray, List.getElem?_cons_succ, List.getElem?_cons_zero]; exact rfl)
          case hQz3 => exact fun _ _ _ h => h
          case hfz3 => kernel_rfl
          case hrz3 => kernel_rfl
          case hwz3 => rfl
          case hyz3 => (intro w hSw; (try dsimp only at hSw); obtain ⟨e0, e1, e2, e3⟩ := hSw; go_simp; (try with_reducible rfl))
          try simp only [Act.put, List.setIfInBounds_toArray, List.set_cons_zero, List.set_cons_succ]
          refine' wpAnyH_take (i := 3) (oi := ?oiz4) (v := ?vz4) ?haz4 (by kernel_rfl) ?hfz4 ?hrz4 ?hQz4 (Or.inl ⟨?hwz4, ?hyz4⟩) (by assumption) ?restz4
          case haz4 => (simp only [List.getElem?_toArray, List.getElem?_cons_succ, List.getElem?_cons_zero]; exact rfl)
          case hQz4 => exact fun _ _ _ h => h
          case hfz4 => kernel_rfl
          case hrz4 => kernel_rfl
          case hwz4 => rfl
          case hyz4 => (intro w hSw; (try dsimp only at hSw); obtain ⟨e0, e1, e2, e3⟩ := hSw; go_simp; (try with_reducible rfl))
          try simp only [Act.put, List.setIfInBounds_toArray, List.set_cons_zero, List.set_cons_succ]
          refine' wpAnyH_take (i := 4) (oi := ?oiz5) (v := ?vz5) ?haz5 (by kernel_rfl) ?hfz5 ?hrz5 ?hQz5 (Or.inl ⟨?hwz5, ?hyz5⟩) (by assumption) ?restz5
          case haz5 => (simp only [List.getElem?_toArray, List.getElem?_cons_succ, List.getElem?_cons_zero]; exact rfl)
          case hQz5 => exact fun _ _ _ h => h
          case hfz5 => kernel_rfl
          case hrz5 => kernel_rfl
          case hwz5 => rfl
          case hyz5 => (intro w hSw; (try dsimp only at hSw); obtain ⟨e0, e1, e2, e3⟩ := hSw; go_simp; (try with_reducible rfl))
          try simp only [Act.put, List.setIfInBounds_toArray, List.set_cons_zero, List.set_cons_succ]
          refine' wpAnyH_take (i := 5) (oi := ?oiz6) (v := ?vz6) ?haz6 (by kernel_rfl) ?hfz6 ?hrz6 ?hQz6 (Or.inl ⟨?hwz6, ?hyz6⟩) (by assumption) ?restz6
          case haz6 => (simp only [List.getElem?_toArray, List.getElem?_cons_succ, List.getElem?_cons_zero]; exact rfl)
          case hQz6 => exact fun _ _ _ h => h
          case hfz6 => kernel_rfl
          case hrz6 => kernel_rfl
          case hwz6 => rfl
          case hyz6 => (intro w hSw; (try dsimp only at hSw); obtain ⟨e0, e1, e2, e3⟩ := hSw; go_simp; (try with_reducible rfl))
          try simp only [Act.put, List.setIfInBounds_toArray, List.set_cons_zero, List.set_cons_succ]
          refine' wpAnyH_take (i := 6) (oi := ?oiz7) (v := ?vz7) ?haz7 (by kernel_rfl) ?hfz7 ?hrz7 ?hQz7 (Or.inl ⟨?hwz7, ?hyz7⟩) (by assumption) ?restz7
          case haz7 => (simp only [List.getElem?_toArray, List.getElem?_cons_succ, List.getElem?_cons_zero]; exact rfl)
          case hQz7 => exact fun _ _ _ h => h
          case hfz7 => kernel_rfl
          case hrz7 => kernel_rfl
          case hwz7 => rfl
          case hyz7 => (intro w hSw; (try dsimp only at hSw); obtain ⟨e0, e1, e2, e3⟩ := hSw; go_simp; (try with_reducible rfl))
          try simp only [Act.put, List.setIfInBounds_toArray, List.set_cons_zero, List.set_cons_succ]
          refine' wpAnyH_take (i := 7) (oi := ?oiz8) (v := ?vz8) ?haz8 (by kernel_rfl) ?hfz8 ?hrz8 ?hQz8 (Or.inl ⟨?hwz8, ?hyz8⟩) (by assumption) ?restz8
          case haz8 => (simp only [List.getElem?_toArray, List.getElem?_cons_succ, List.getElem?_cons_zero]; exact rfl)
          case hQz8 => exact fun _ _ _ h => h
          case hfz8 => kernel_rfl
          case hrz8 => kernel_rfl
          case hwz8 => rfl
          case hyz8 => (intro w hSw; (try dsimp only at hSw); obtain ⟨e0, e1, e2, e3⟩ := hSw; go_simp; (try with_reducible rfl))
          try simp only [Act.put, List.setIfInBounds_toArray, List.set_cons_zero, List.set_cons_succ]
          refine' wpAnyH_take (i := 8) (oi := ?oiz9) (v := ?vz9) ?haz9 (by kernel_rfl) ?hfz9 ?hrz9 ?hQz9 (Or.inl ⟨?hwz9, ?hyz9⟩) (by assumption) ?restz9
          case haz9 => (simp only [List.getElem?_toArray, List.getElem?_cons_succ, List.getElem?_cons_zero]; exact rfl)
          case hQz9 => exact fun _ _ _ h => h
          case hfz9 => kernel_rfl
          case hrz9 => kernel_rfl
          case hwz9 => rfl
          case hyz9 => (intro w hSw; (try dsimp only at hSw); obtain ⟨e0, e1, e2, e3⟩ := hSw; go_simp; (try with_reducible rfl))
          try simp only [Act.put, List.setIfInBounds_toArray, List.set_cons_zero, List.set_cons_succ]
          refine' wpAnyH_take (i := 9) (oi := ?oiz10) (v := ?vz10) ?haz10 (by kernel_rfl) ?hfz10 ?hrz10 ?hQz10 (Or.inl ⟨?hwz10, ?hyz10⟩) (by assumption) ?restz10
          case haz10 => (simp only [List.getElem?_toArray, List.getElem?_cons_succ, List.getElem?_cons_zero]; exact rfl)
          case hQz10 => exact fun _ _ _ h => h
          case hfz10 => kernel_rfl
          case hrz10 => kernel_rfl
          case hwz10 => rfl
          case hyz10 => (intro w hSw; (try dsimp only at hSw); obtain ⟨e0, e1, e2, e3⟩ := hSw; go_simp; (try with_reducible rfl))
          try simp only [Act.put, List.setIfInBounds_toArray, List.set_cons_zero, List.set_cons_succ]
          refine' wpAnyH_take (i := 10) (oi := ?oiz11) (v := ?vz11) ?haz11 (by kernel_rfl) ?hfz11 ?hrz11 ?hQz11 (Or.inl ⟨?hwz11, ?hyz11⟩) (by assumption) ?restz11
          case haz11 => (simp only [List.getElem?_toArray, List.getElem?_cons_succ, List.getElem?_cons_zero]; exact rfl)
          case hQz11 => exact fun _ _ _ h => h
          case hfz11 => kernel_rfl
          case hrz11 => kernel_rfl
          case hwz11 => rfl
          case hyz11 => (intro w hSw; (try dsimp only at hSw); obtain ⟨e0, e1, e2, e3⟩ := hSw; go_simp; (try with_reducible rfl))
          try simp only [Act.put, List.setIfInBounds_toArray, List.set_cons_zero, List.set_cons_succ]
          refine' wpAnyH_take (i := 11) (oi := ?oiz12) (v := ?vz12) ?haz12 (by kernel_rfl) ?hfz12 ?hrz12 ?hQz12 (Or.inl ⟨?hwz12, ?hyz12⟩) (by assumption) ?restz12
          case haz12 => (simp only [List.getElem?_toArray, List.getElem?_cons_succ, List.getElem?_cons_zero]; exact rfl)
          case hQz12 => exact fun _ _ _ h => h
          case hfz12 => kernel_rfl
          case hrz12 => kernel_rfl
          case hwz12 => rfl
          case hyz12 => (intro w hSw; (try dsimp only at hSw); obtain ⟨e0, e1, e2, e3⟩ := hSw; go_simp; (try with_reducible rfl))
          try simp only [Act.put, List.setIfInBounds_toArray, List.set_cons_zero, List.set_cons_succ]
          refine' wpAnyH_take (i := 12) (oi := ?oiz13) (v := ?vz13) ?haz13 (by kernel_rfl) ?hfz13 ?hrz13 ?hQz13 (Or.inl ⟨?hwz13, ?hyz13⟩) (by assumption) ?restz13
          case haz13 => (simp only [List.getElem?_toArray, List.getElem?_cons_succ, List.getElem?_cons_zero]; exact rfl)
          case hQz13 => exact fun _ _ _ h => h
          case hfz13 => kernel_rfl
          case hrz13 => kernel_rfl
          case hwz13 => rfl
          case hyz13 => (intro w hSw; (try dsimp only at hSw); obtain ⟨e0, e1, e2, e3⟩ := hSw; go_simp; (try with_reducible rfl))
          try simp only [Act.put, List.setIfInBounds_toArray, List.set_cons_zero, List.set_cons_succ]
          refine' wpAnyH_take (i := 13) (oi := ?oiz14) (v := ?vz14) ?haz14 (by kernel_rfl) ?hfz14 ?hrz14 ?hQz14 (Or.inl ⟨?hwz14, ?hyz14⟩) (by assumption) ?restz14
          case haz14 => (simp only [List.getElem?_toArray, List.getElem?_cons_succ, List.getElem?_cons_zero]; exact rfl)
          case hQz14 => exact fun _ _ _ h => h
          case hfz14 => kernel_rfl
          case hrz14 => kernel_rfl
          case hwz14 => rfl
          case hyz14 => (intro w hSw; (try dsimp only at hSw); obtain ⟨e0, e1, e2, e3⟩ := hSw; go_simp; (try with_reducible rfl))
          try simp only [Act.put, List.setIfInBounds_toArray, List.set_cons_zero, List.set_cons_succ]
          refine' wpAnyH_take (i := 14) (oi := ?oiz15) (v := ?vz15) ?haz15 (by kernel_rfl) ?hfz15 ?hrz15 ?hQz15 (Or.inl ⟨?hwz15, ?hyz15⟩) (by assumption) ?restz15
          case haz15 => (simp only [List.getElem?_toArray, List.getElem?_cons_succ, List.getElem?_cons_zero]; exact rfl)
          case hQz15 => exact fun _ _ _ h => h
          case hfz15 => kernel_rfl
          case hrz15 => kernel_rfl
          case hwz15 => rfl
          case hyz15 => (intro w hSw; (try dsimp only at hSw); obtain ⟨e0, e1, e2, e3⟩ := hSw; go_simp; (try with_reducible rfl))
          try simp only [Act.put, List.setIfInBounds_toArray, List.set_cons_zero, List.set_cons_succ]
          refine' wpAnyH_take (i := 15) (oi := ?oiz16) (v := ?vz16) ?haz16 (by kernel_rfl) ?hfz16 ?hrz16 ?hQz16 (Or.inl ⟨?hwz16, ?hyz16⟩) (by assumption) ?restz16
          case haz16 => (simp only [List.getElem?_toArray, List.getElem?_cons_succ, List.getElem?_cons_zero]; exact rfl)
          case hQz16 => exact fun _ _ _ h => h
          case hfz16 => kernel_rfl
          case hrz16 => kernel_rfl
          case hwz16 => rfl
          case hyz16 => (intro w hSw; (try dsimp only at hSw); obtain ⟨e0, e1, e2, e3⟩ := hSw; go_simp; (try with_reducible rfl))
          try simp only [Act.put, List.setIfInBounds_toArray, List.set_cons_zero, List.set_cons_succ]
          refine' wpAnyH_take (i := 16) (oi := ?oiz17) (v := ?vz17) ?haz17 (by kernel_rfl) ?hfz17 ?hrz17 ?hQz17 (Or.inl ⟨?hwz17, ?hyz17⟩) (by assumption) ?restz17
          case haz17 => (simp only [List.getElem?_toArray, List.getElem?_cons_succ, List.getElem?_cons_zero]; exact rfl)
          case hQz17 => exact fun _ _ _ h => h
          case hfz17 => kernel_rfl
          case hrz17 => kernel_rfl
          case hwz17 => rfl
          case hyz17 => (intro w hSw; (try dsimp only at hSw); obtain ⟨e0, e1, e2, e3⟩ := hSw; go_simp; (try with_reducible rfl))
          try simp only [Act.put, List.setIfInBounds_toArray, List.set_cons_zero, List.set_cons_succ]
          refine' wpAnyH_take (i := 17) (oi := ?oiz18) (v := ?vz18) ?haz18 (by kernel_rfl) ?hfz18 ?hrz18 ?hQz18 (Or.inl ⟨?hwz18, ?hyz18⟩) (by assumption) ?restz18
          case haz18 => (simp only [List.getElem?_toArray, List.getElem?_cons_succ, List.getElem?_cons_zero]; exact rfl)
          case hQz18 => exact fun _ _ _ h => h
          case hfz18 => kernel_rfl
          case hrz18 => kernel_rfl
          case hwz18 => rfl
          case hyz18 => (intro w hSw; (try dsimp only at hSw); obtain ⟨e0, e1, e2, e3⟩ := hSw; go_simp; (try with_reducible rfl))
          try simp only [Act.put, List.setIfInBounds_toArray, List.set_cons_zero, List.set_cons_succ]
          refine wpAnyH_ready (rs := [18]) (by kernel_rfl) (by simp) ?_
          refine' AllReadyH.cons (o := ?oiz19) ?haz19 (fun K hK => ?stepz19) AllReadyH.nil
          case haz19 => (simp only [List.getElem?_toArray, List.getElem?_cons_succ, List.getElem?_cons_zero]; exact rfl)
          go_simp
          go_at_call 23
          refine (HEF.out _ (Below.refl _ _).drew).mono ?_
          rintro e we ⟨rfl, hbe⟩
          have HBE := Lib.hid hbe
          clear hbe
          refine hK.out _ _ (HKE.out we HBE.out) (fun hHeld => ?_)
          clear hK K
          try simp only [Act.put, List.setIfInBounds_toArray, List.set_cons_zero, List.set_cons_succ]
          refine' wpAnyH_take (i := 19) (oi := ?oiz20) (v := ?vz20) ?haz20 (by kernel_rfl) ?hfz20 ?hrz20 ?hQz20 (Or.inl ⟨?hwz20, ?hyz20⟩) (by assumption) ?restz20
          case haz20 => (simp only [List.getElem?_toArray, List.getElem?_cons_succ, List.getElem?_cons_zero]; exact rfl)
          case hQz20 => exact fun _ _ _ h => h
          case hfz20 => kernel_rfl
          case hrz20 => kernel_rfl
          case hwz20 => rfl
          case hyz20 => (intro w hSw; (try dsimp only at hSw); obtain ⟨e0, e1, e2, e3⟩ := hSw; go_simp; (try with_reducible rfl))
          try simp only [Act.put, List.setIfInBounds_toArray, List.set_cons_zero, List.set_cons_succ]
          refine' wpAnyH_take (i := 20) (oi := ?oiz21) (v := ?vz21) ?haz21 (by kernel_rfl) ?hfz21 ?hrz21 ?hQz21 (Or.inl ⟨?hwz21, ?hyz21⟩) (by assumption) ?restz21
          case haz21 => (simp only [List.getElem?_toArray, List.getElem?_cons_succ, List.getElem?_cons_zero]; exact rfl)
          case hQz21 => exact fun _ _ _ h => h
          case hfz21 => kernel_rfl
          case hrz21 => kernel_rfl
          case hwz21 => rfl
          case hyz21 => (intro w hSw; (try dsimp only at hSw); obtain ⟨e0, e1, e2, e3⟩ := hSw; go_simp; (try with_reducible rfl))
          try simp only [Act.put, List.setIfInBounds_toArray, List.set_cons_zero, List.set_cons_succ]
          refine' wpAnyH_take (i := 21) (oi := ?oiz22) (v := ?vz22) ?haz22 (by kernel_rfl) ?hfz22 ?hrz22 ?hQz22 (Or.inl ⟨?hwz22, ?hyz22⟩) (by assumption) ?restz22
          case haz22 => (simp only [List.getElem?_toArray, List.getElem?_cons_succ, List.getElem?_cons_zero]; exact rfl)
          case hQz22 => exact fun _ _ _ h => h
          case hfz22 => kernel_rfl
          case hrz22 => kernel_rfl
          case hwz22 => rfl
          case hyz22 => (intro w hSw; (try dsimp only at hSw); obtain ⟨e0, e1, e2, e3⟩ := hSw; go_simp; (try with_reducible rfl))
          try simp only [Act.put, List.setIfInBounds_toArray, List.set_cons_zero, List.set_cons_succ]
          refine wpAnyH_done (by kernel_rfl) ?_ _
          go_wp2_with fail
          go_ret2
          refine ⟨(p, F), (q, G), ?_, HC.out, HD.out, Below.chain HB2.out (show Below w2.heap.size w2 we from (Below.refl _ _).drew.trans HBE.out)⟩
          simp [hpq]
        · have hd : (p == q) = false := by simpa using hpq
          have hd' : decide (p = q) = false := by simpa using hpq
          go_wp2_with fail
          refine wp_region_held_drew (S := fun w => w.cell? ⟨bx, 1, none⟩ = some (.int .i64 p) ∧ w.cell? ⟨bx, 2, none⟩ = some u ∧ w.cell? ⟨by', 1, none⟩ = some (.int .i64 q) ∧ w.cell? ⟨by', 2, none⟩ = some v) (by kernel_rfl) (⟨c1, c2, d1, d2⟩) (fun hHeld => ?_)
          refine' wpAnyH_take (i := 0) (oi := ?oiz23) (v := ?vz23) ?haz23 (by kernel_rfl) ?hfz23 ?hrz23 ?hQz23 (Or.inl ⟨?hwz23, ?hyz23⟩) (by assumption) ?restz23
          case haz23 => (simp only [List.getElem?_toArray, List.getElem?_cons_zero]; exact rfl)
          case hQz23 => exact fun _ _ _ h => h
          case hfz23 => kernel_rfl
          case hrz23 => kernel_rfl
          case hwz23 => rfl
          case hyz23 => (intro w hSw; (try dsimp only at hSw); obtain ⟨e0, e1, e2, e3⟩ := hSw; go_simp; (try with_reducible rfl))
          try simp only [Act.put, List.setIfInBounds_toArray, List.set_cons_zero, List.set_cons_succ]
          refine' wpAnyH_take (i := 1) (oi := ?oiz24) (v := ?vz24) ?haz24 (by kernel_rfl) ?hfz24 ?hrz24 ?hQz24 (Or.inl ⟨?hwz24, ?hyz24⟩) (by assumption) ?restz24
          case haz24 => (simp only [List.getElem?_toArray, List.getElem?_cons_succ, List.getElem?_cons_zero]; exact rfl)
          case hQz24 => exact fun _ _ _ h => h
          case hfz24 => kernel_rfl
          case hrz24 => kernel_rfl
          case hwz24 => rfl
          case hyz24 => (intro w hSw; (try dsimp only at hSw); obtain ⟨e0, e1, e2, e3⟩ := hSw; go_simp; (try with_reducible rfl))
          try simp only [Act.put, List.setIfInBounds_toArray, List.set_cons_zero, List.set_cons_succ]
          refine' wpAnyH_take (i := 2) (oi := ?oiz25) (v := ?vz25) ?haz25 (by kernel_rfl) ?hfz25 ?hrz25 ?hQz25 (Or.inl ⟨?hwz25, ?hyz25⟩) (by assumption) ?restz25
          case haz25 => (simp only [List.getElem?_toArray, List.getElem?_cons_succ, List.getElem?_cons_zero]; exact rfl)
          case hQz25 => exact fun _ _ _ h => h
          case hfz25 => kernel_rfl
          case hrz25 => kernel_rfl
          case hwz25 => rfl
          case hyz25 => (intro w hSw; (try dsimp only at hSw); obtain ⟨e0, e1, e2, e3⟩ := hSw; go_simp; (try with_reducible rfl))
          try simp only [Act.put, List.setIfInBounds_toArray, List.set_cons_zero, List.set_cons_succ]
          refine' wpAnyH_take (i := 3) (oi := ?oiz26) (v := ?vz26) ?haz26 (by kernel_rfl) ?hfz26 ?hrz26 ?hQz26 (Or.inl ⟨?hwz26, ?hyz26⟩) (by assumption) ?restz26
          case haz26 => (simp only [List.getElem?_toArray, List.getElem?_cons_succ, List.getElem?_cons_zero]; exact rfl)
          case hQz26 => exact fun _ _ _ h => h
          case hfz26 => kernel_rfl
          case hrz26 => kernel_rfl
          case hwz26 => rfl
          case hyz26 => (intro w hSw; (try dsimp only at hSw); obtain ⟨e0, e1, e2, e3⟩ := hSw; go_simp; (try with_reducible rfl))
          try simp only [Act.put, List.setIfInBounds_toArray, List.set_cons_zero, List.set_cons_succ]
          refine' wpAnyH_take (i := 4) (oi := ?oiz27) (v := ?vz27) ?haz27 (by kernel_rfl) ?hfz27 ?hrz27 ?hQz27 (Or.inl ⟨?hwz27, ?hyz27⟩) (by assumption) ?restz27
          case haz27 => (simp only [List.getElem?_toArray, List.getElem?_cons_succ, List.getElem?_cons_zero]; exact rfl)
          case hQz27 => exact fun _ _ _ h => h
          case hfz27 => kernel_rfl
          case hrz27 => kernel_rfl
          case hwz27 => rfl
          case hyz27 => (intro w hSw; (try dsimp only at hSw); obtain ⟨e0, e1, e2, e3⟩ := hSw; go_simp; (try with_reducible rfl))
          try simp only [Act.put, List.setIfInBounds_toArray, List.set_cons_zero, List.set_cons_succ]
          refine' wpAnyH_take (i := 5) (oi := ?oiz28) (v := ?vz28) ?haz28 (by kernel_rfl) ?hfz28 ?hrz28 ?hQz28 (Or.inl ⟨?hwz28, ?hyz28⟩) (by assumption) ?restz28
          case haz28 => (simp only [List.getElem?_toArray, List.getElem?_cons_succ, List.getElem?_cons_zero]; exact rfl)
          case hQz28 => exact fun _ _ _ h => h
          case hfz28 => kernel_rfl
          case hrz28 => kernel_rfl
          case hwz28 => rfl
          case hyz28 => (intro w hSw; (try dsimp only at hSw); obtain ⟨e0, e1, e2, e3⟩ := hSw; go_simp; (try with_reducible rfl))
          try simp only [Act.put, List.setIfInBounds_toArray, List.set_cons_zero, List.set_cons_succ]
          refine' wpAnyH_take (i := 6) (oi := ?oiz29) (v := ?vz29) ?haz29 (by kernel_rfl) ?hfz29 ?hrz29 ?hQz29 (Or.inl ⟨?hwz29, ?hyz29⟩) (by assumption) ?restz29
          case haz29 => (simp only [List.getElem?_toArray, List.getElem?_cons_succ, List.getElem?_cons_zero]; exact rfl)
          case hQz29 => exact fun _ _ _ h => h
          case hfz29 => kernel_rfl
          case hrz29 => kernel_rfl
          case hwz29 => rfl
          case hyz29 => (intro w hSw; (try dsimp only at hSw); obtain ⟨e0, e1, e2, e3⟩ := hSw; go_simp; (try with_reducible rfl))
          try simp only [Act.put, List.setIfInBounds_toArray, List.set_cons_zero, List.set_cons_succ]
          refine' wpAnyH_take (i := 7) (oi := ?oiz30) (v := ?vz30) ?haz30 (by kernel_rfl) ?hfz30 ?hrz30 ?hQz30 (Or.inl ⟨?hwz30, ?hyz30⟩) (by assumption) ?restz30
          case haz30 => (simp only [List.getElem?_toArray, List.getElem?_cons_succ, List.getElem?_cons_zero]; exact rfl)
          case hQz30 => exact fun _ _ _ h => h
          case hfz30 => kernel_rfl
          case hrz30 => kernel_rfl
          case hwz30 => rfl
          case hyz30 => (intro w hSw; (try dsimp only at hSw); obtain ⟨e0, e1, e2, e3⟩ := hSw; go_simp; (try with_reducible rfl))
          try simp only [Act.put, List.setIfInBounds_toArray, List.set_cons_zero, List.set_cons_succ]
          refine' wpAnyH_take (i := 8) (oi := ?oiz31) (v := ?vz31) ?haz31 (by kernel_rfl) ?hfz31 ?hrz31 ?hQz31 (Or.inl ⟨?hwz31, ?hyz31⟩) (by assumption) ?restz31
          case haz31 => (simp only [List.getElem?_toArray, List.getElem?_cons_succ, List.getElem?_cons_zero]; exact rfl)
          case hQz31 => exact fun _ _ _ h => h
          case hfz31 => kernel_rfl
          case hrz31 => kernel_rfl
          case hwz31 => rfl
          case hyz31 => (intro w hSw; (try dsimp only at hSw); obtain ⟨e0, e1, e2, e3⟩ := hSw; go_simp; (try with_reducible rfl))
          try simp only [Act.put, List.setIfInBounds_toArray, List.set_cons_zero, List.set_cons_succ]
          refine' wpAnyH_take (i := 9) (oi := ?oiz32) (v := ?vz32) ?haz32 (by kernel_rfl) ?hfz32 ?hrz32 ?hQz32 (Or.inl ⟨?hwz32, ?hyz32⟩) (by assumption) ?restz32
          case haz32 => (simp only [List.getElem?_toArray, List.getElem?_cons_succ, List.getElem?_cons_zero]; exact rfl)
          case hQz32 => exact fun _ _ _ h => h
          case hfz32 => kernel_rfl
          case hrz32 => kernel_rfl
          case hwz32 => rfl
          case hyz32 => (intro w hSw; (try dsimp only at hSw); obtain ⟨e0, e1, e2, e3⟩ := hSw; go_simp; (try with_reducible rfl))
          try simp only [Act.put, List.setIfInBounds_toArray, List.set_cons_zero, List.set_cons_succ]
          refine' wpAnyH_take (i := 10) (oi := ?oiz33) (v := undef) ?haz33 (by kernel_rfl) ?hfz33 ?hrz33 ?hQz33 (Or.inr ⟨?hwz33, rfl⟩) (by assumption) ?restz33
          case haz33 => (simp only [List.getElem?_toArray, List.getElem?_cons_succ, List.getElem?_cons_zero]; exact rfl)
          case hQz33 => exact fun _ _ _ h => h
          case hfz33 => kernel_rfl
          case hrz33 => kernel_rfl
          case hwz33 => rfl
          try simp only [Act.put, List.setIfInBounds_toArray, List.set_cons_zero, List.set_cons_succ]
          refine' wpAnyH_take (i := 11) (oi := ?oiz34) (v := undef) ?haz34 (by kernel_rfl) ?hfz34 ?hrz34 ?hQz34 (Or.inr ⟨?hwz34, rfl⟩) (by assumption) ?restz34
          case haz34 => (simp only [List.getElem?_toArray, List.getElem?_cons_succ, List.getElem?_cons_zero]; exact rfl)
          case hQz34 => exact fun _ _ _ h => h
          case hfz34 => kernel_rfl
          case hrz34 => kernel_rfl
          case hwz34 => rfl
          try simp only [Act.put, List.setIfInBounds_toArray, List.set_cons_zero, List.set_cons_succ]
          refine' wpAnyH_take (i := 12) (oi := ?oiz35) (v := undef) ?haz35 (by kernel_rfl) ?hfz35 ?hrz35 ?hQz35 (Or.inr ⟨?hwz35, rfl⟩) (by assumption) ?restz35
          case haz35 => (simp only [List.getElem?_toArray, List.getElem?_cons_succ, List.getElem?_cons_zero]; exact rfl)
          case hQz35 => exact fun _ _ _ h => h
          case hfz35 => kernel_rfl
          case hrz35 => kernel_rfl
          case hwz35 => rfl
          try simp only [Act.put, List.setIfInBounds_toArray, List.set_cons_zero, List.set_cons_succ]
          refine' wpAnyH_take (i := 13) (oi := ?oiz36) (v := undef) ?haz36 (by kernel_rfl) ?hfz36 ?hrz36 ?hQz36 (Or.inr ⟨?hwz36, rfl⟩) (by assumption) ?restz36
          case haz36 => (simp only [List.getElem?_toArray, List.getElem?_cons_succ, List.getElem?_cons_zero]; exact rfl)
          case hQz36 => exact fun _ _ _ h => h
          case hfz36 => kernel_rfl
          case hrz36 => kernel_rfl
          case hwz36 => rfl
          try simp only [Act.put, List.setIfInBounds_toArray, List.set_cons_zero, List.set_cons_succ]
          refine' wpAnyH_take (i := 14) (oi := ?oiz37) (v := undef) ?haz37 (by kernel_rfl) ?hfz37 ?hrz37 ?hQz37 (Or.inr ⟨?hwz37, rfl⟩) (by assumption) ?restz37
          case haz37 => (simp only [List.getElem?_toArray, List.getElem?_cons_succ, List.getElem?_cons_zero]; exact rfl)
          case hQz37 => exact fun _ _ _ h => h
          case hfz37 => kernel_rfl
          case hrz37 => kernel_rfl
          case hwz37 => rfl
          try simp only [Act.put, List.setIfInBounds_toArray, List.set_cons_zero, List.set_cons_succ]
          refine' wpAnyH_take (i := 15) (oi := ?oiz38) (v := undef) ?haz38 (by kernel_rfl) ?hfz38 ?hrz38 ?hQz38 (Or.inr ⟨?hwz38, rfl⟩) (by assumption) ?restz38
          case haz38 => (simp only [List.getElem?_toArray, List.getElem?_cons_succ, List.getElem?_cons_zero]; exact rfl)
          case hQz38 => exact fun _ _ _ h => h
          case hfz38 => kernel_rfl
          case hrz38 => kernel_rfl
          case hwz38 => rfl
          try simp only [Act.put, List.setIfInBounds_toArray, List.set_cons_zero, List.set_cons_succ]
          refine' wpAnyH_take (i := 16) (oi := ?oiz39) (v := undef) ?haz39 (by kernel_rfl) ?hfz39 ?hrz39 ?hQz39 (Or.inr ⟨?hwz39, rfl⟩) (by assumption) ?restz39
          case haz39 => (simp only [List.getElem?_toArray, List.getElem?_cons_succ, List.getElem?_cons_zero]; exact rfl)
          case hQz39 => exact fun _ _ _ h => h
          case hfz39 => kernel_rfl
          case hrz39 => kernel_rfl
          case hwz39 => rfl
          try simp only [Act.put, List.setIfInBounds_toArray, List.set_cons_zero, List.set_cons_succ]
          refine' wpAnyH_take (i := 17) (oi := ?oiz40) (v := undef) ?haz40 (by kernel_rfl) ?hfz40 ?hrz40 ?hQz40 (Or.inr ⟨?hwz40, rfl⟩) (by assumption) ?restz40
          case haz40 => (simp only [List.getElem?_toArray, List.getElem?_cons_succ, List.getElem?_cons_zero]; exact rfl)
          case hQz40 => exact fun _ _ _ h => h
          case hfz40 => kernel_rfl
          case hrz40 => kernel_rfl
          case hwz40 => rfl
          try simp only [Act.put, List.setIfInBounds_toArray, List.set_cons_zero, List.set_cons_succ]
          refine' wpAnyH_take (i := 18) (oi := ?oiz41) (v := undef) ?haz41 (by kernel_rfl) ?hfz41 ?hrz41 ?hQz41 (Or.inr ⟨?hwz41, rfl⟩) (by assumption) ?restz41
          case haz41 => (simp only [List.getElem?_toArray, List.getElem?_cons_succ, List.getElem?_cons_zero]; exact rfl)
          case hQz41 => exact fun _ _ _ h => h
          case hfz41 => kernel_rfl
          case hrz41 => kernel_rfl
          case hwz41 => rfl
          try simp only [Act.put, List.setIfInBounds_toArray, List.set_cons_zero, List.set_cons_succ]
          refine' wpAnyH_take (i := 19) (oi := ?oiz42) (v := ?vz42) ?haz42 (by kernel_rfl) ?hfz42 ?hrz42 ?hQz42 (Or.inl ⟨?hwz42, ?hyz42⟩) (by assumption) ?restz42
          case haz42 => (simp only [List.getElem?_toArray, List.getElem?_cons_succ, List.getElem?_cons_zero]; exact rfl)
          case hQz42 => exact fun _ _ _ h => h
          case hfz42 => kernel_rfl
          case hrz42 => kernel_rfl
          case hwz42 => rfl
          case hyz42 => (intro w hSw; (try dsimp only at hSw); obtain ⟨e0, e1, e2, e3⟩ := hSw; go_simp; (try with_reducible rfl))
          try simp only [Act.put, List.setIfInBounds_toArray, List.set_cons_zero, List.set_cons_succ]
          refine' wpAnyH_take (i := 20) (oi := ?oiz43) (v := ?vz43) ?haz43 (by kernel_rfl) ?hfz43 ?hrz43 ?hQz43 (Or.inl ⟨?hwz43, ?hyz43⟩) (by assumption) ?restz43
          case haz43 => (simp only [List.getElem?_toArray, List.getElem?_cons_succ, List.getElem?_cons_zero]; exact rfl)
          case hQz43 => exact fun _ _ _ h => h
          case hfz43 => kernel_rfl
          case hrz43 => kernel_rfl
          case hwz43 => rfl
          case hyz43 => (intro w hSw; (try dsimp only at hSw); obtain ⟨e0, e1, e2, e3⟩ := hSw; go_simp; (try with_reducible rfl))
          try simp only [Act.put, List.setIfInBounds_toArray, List.set_cons_zero, List.set_cons_succ]
          refine' wpAnyH_take (i := 21) (oi := ?oiz44) (v := ?vz44) ?haz44 (by kernel_rfl) ?hfz44 ?hrz44 ?hQz44 (Or.inl ⟨?hwz44, ?hyz44⟩) (by assumption) ?restz44
          case haz44 => (simp only [List.getElem?_toArray, List.getElem?_cons_succ, List.getElem?_cons_zero]; exact rfl)
          case hQz44 => exact fun _ _ _ h => h
          case hfz44 => kernel_rfl
          case hrz44 => kernel_rfl
          case hwz44 => rfl
          case hyz44 => (intro w hSw; (try dsimp only at hSw); obtain ⟨e0, e1, e2, e3⟩ := hSw; go_simp; (try with_reducible rfl))
          try simp only [Act.put, List.setIfInBounds_toArray, List.set_cons_zero, List.set_cons_succ]
          refine wpAnyH_done (by kernel_rfl) ?_ _
          go_wp2_with fail
          go_ret2
          refine ⟨(p, F), (q, G), ?_, HC.out, HD.out, HB2.out.drew⟩
          simp [hpq]

end Go.Proofs.Ytnmklkjlcpgjmaa


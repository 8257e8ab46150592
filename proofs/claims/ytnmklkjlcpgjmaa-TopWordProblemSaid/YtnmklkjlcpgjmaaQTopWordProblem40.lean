/- garside.settle walked. -/
import Derived.Test.YtnmklkjlcpgjmaaQTopWordProblem0
import Derived.Test.YtnmklkjlcpgjmaaQTopWordProblem1
import Derived.Test.YtnmklkjlcpgjmaaQTopWordProblem3
import Derived.Test.YtnmklkjlcpgjmaaQTopWordProblem5
import Derived.Test.YtnmklkjlcpgjmaaQTopWordProblem6
import Derived.Test.YtnmklkjlcpgjmaaQTopWordProblem7
import Derived.Test.YtnmklkjlcpgjmaaQTopWordProblem8
import Derived.Test.YtnmklkjlcpgjmaaQTopWordProblem9
import Derived.Test.YtnmklkjlcpgjmaaQTopWordProblem10
import Derived.Test.YtnmklkjlcpgjmaaQTopWordProblem11
import Derived.Test.YtnmklkjlcpgjmaaQTopWordProblem12
import Derived.Test.YtnmklkjlcpgjmaaQTopWordProblem13
import Derived.Test.YtnmklkjlcpgjmaaQTopWordProblem15
import Derived.Test.YtnmklkjlcpgjmaaQTopWordProblem16
import Derived.Test.YtnmklkjlcpgjmaaQTopWordProblem17
import Derived.Test.YtnmklkjlcpgjmaaQTopWordProblem18
import Derived.Test.YtnmklkjlcpgjmaaQTopWordProblem19
import Derived.Test.YtnmklkjlcpgjmaaQTopWordProblem20
import Derived.Test.YtnmklkjlcpgjmaaQTopWordProblem29
import Derived.Test.YtnmklkjlcpgjmaaQTopWordProblem31
import Derived.Test.YtnmklkjlcpgjmaaQTopWordProblem32
import Derived.Test.YtnmklkjlcpgjmaaQTopWordProblem34
import Derived.Test.YtnmklkjlcpgjmaaQTopWordProblem35
import Derived.Test.YtnmklkjlcpgjmaaQTopWordProblem36
import Derived.Test.YtnmklkjlcpgjmaaQTopWordProblem37
import Derived.Test.YtnmklkjlcpgjmaaQTopWordProblem38
import Derived.Test.YtnmklkjlcpgjmaaQTopWordProblem39
import Derived.Deep.RegionHeld3
import Derived.Deep.CutRange
namespace Go.Proofs.Ytnmklkjlcpgjmaa
open Go.RowKit Go.Sl

theorem cell_far (w : World) {b c : Nat} (h : b ≠ c) (i j : Nat) (u : Value) : (w.setCell ⟨b, i, none⟩ u).cell? ⟨c, j, none⟩ = w.cell? ⟨c, j, none⟩ := by
  simp only [World.cell?, Below.heap_setCell w ⟨b, i, none⟩ u c (fun e => h e.symm)]
theorem frm_put {W : World} {B bx n : Nat} {p : Int} {v0 v' : Value} {vs' : List Value} {F' : List (List Int)} (h : W.heap[bx]? = some (.cells #[.int .i64 n, .int .i64 p, v0] 50 (0, 0))) (hge : B ≤ bx) (hr : RG W B v' vs' F') : Frm (W.setCell ⟨bx, 2, none⟩ v') B bx n p v' vs' F' := by
  have hbx : ∀ i, i < F'.length → bx ≠ vblk (nthv vs' i) := fun i hi e => by
    obtain ⟨cur2, hh2⟩ := hr.heapAt hi
    rw [← e, h] at hh2
    have := (Obj.cells.inj (Option.some.inj hh2)).2.1
    revert this
    decide
  refine ⟨by simp [World.setCell, Array.getElem?_modify, h], ⟨hr.own.setOther (fun k hk e => ?_) _, hr.len, fun i hi => (hr.row i hi).setOther (fun k hk e => ?_) _, hr.pos, hr.each⟩, hge⟩
  · exact box_row (cs := [.int .i64 n, .int .i64 p, v0]) h hr.own (by rw [hk, ← e])
  · rw [hr.rowAt hi] at hk
    exact hbx i hi (e.trans (Option.some.inj hk).symm)
/-- A box of one cell. -/
def One (w : World) (b : Nat) (x : Value) : Prop := w.heap[b]? = some (.cells #[x] 22 (0, 0))
section
variable {w w' : World} {b : Nat} {x : Value}
theorem One.lt (h : One w b x) : b < w.heap.size := (Array.getElem?_eq_some_iff.1 h).1
theorem One.cell (h : One w b x) : w.cell? ⟨b, 0, none⟩ = some x := by simp [World.cell?, show w.heap[b]? = _ from h]
theorem One.free (h : One w b x) : w.frozen? ⟨b, 0, none⟩ = false := by simp [World.frozen?, show w.heap[b]? = _ from h]
theorem One.below (h : One w b x) (hb : Below w.heap.size w w') : One w' b x := (hb.block _ h.lt).trans h
theorem One.set (h : One w b x) (y : Value) : One (w.setCell ⟨b, 0, none⟩ y) b y := by
  unfold One at *
  simp [World.setCell, Array.getElem?_modify, h]
theorem one_new (w : World) (x : Value) : One (w.alloc (.cells #[x] 22)) w.heap.size x := heap_alloc_new w _
theorem one_apart {B : Nat} {v : Value} {xs : List Int} (h : One w b x) (k : OwnI w B v xs) : ∀ j, Go.Sl.row v = some j → (⟨b, 0, none⟩ : Addr).block ≠ j := fun j hj e => by
  obtain ⟨h0, h1⟩ := row_eq hj
  obtain ⟨_, _, cur, hh, _⟩ := k.2.2 h0
  have e' : b = j := e
  rw [h1, ← e', show w.heap[b]? = _ from h] at hh
  have := (Obj.cells.inj (Option.some.inj hh)).2.1
  revert this
  decide
end
theorem Chd.cell {w w' : World} {S : Nat → Prop} (h : Chd w w' S) {b : Nat} (hb : b < w.heap.size) (hs : ¬ S b) (o : Nat) : w'.cell? ⟨b, o, none⟩ = w.cell? ⟨b, o, none⟩ := by
  simp only [World.cell?, h.block b hb hs]

theorem Frm.pair {W W' : World} {B bx n : Nat} {p : Int} {v : Value} {vs : List Value} {F : List (List Int)} (h : Frm W B bx n p v vs F) {i : Nat} (hi : i + 1 < F.length) {a b : List Int} (hc : Chd W W' (fun k => k = vblk (nthv vs i) ∨ k = vblk (nthv vs (i + 1)))) (ha : OwnI W' B (nthv vs i) a) (hb : OwnI W' B (nthv vs (i + 1)) b) (la : 0 < a.length) (lb : 0 < b.length) :
    Frm W' B bx n p v vs ((F.set i a).set (i + 1) b) :=
  ⟨(hc.block bx h.lt (by
    rintro (e | e)
    · exact h.rowNe (i := i) (by omega) e
    · exact h.rowNe (i := i + 1) hi e)).trans h.box, h.rows.pair hi hc ha hb la lb, h.ge⟩
theorem Frm.pairSame {W W' : World} {B bx n : Nat} {p : Int} {v : Value} {vs : List Value} {F : List (List Int)} (h : Frm W B bx n p v vs F) {i : Nat} (hi : i + 1 < F.length) (hc : Chd W W' (fun k => k = vblk (nthv vs i) ∨ k = vblk (nthv vs (i + 1)))) (ha : OwnI W' B (nthv vs i) (nthr F i)) (hb : OwnI W' B (nthv vs (i + 1)) (nthr F (i + 1))) :
    Frm W' B bx n p v vs F := by
  have := h.pair hi hc ha hb (h.rows.pos i (by omega)) (h.rows.pos (i + 1) hi)
  rwa [set_same (by omega), set_same hi] at this
theorem pn_nthr {n : Nat} {G : List (List Int)} (g : Good n G) {j : Nat} (hj : j < G.length) : Pn n (nthr G j) := by rw [nthr_lt hj]; exact g _ (List.getElem_mem hj)

set_option maxRecDepth 100000 in
set_option maxHeartbeats 8000000 in
theorem settle_calls (n : Nat) (p : Int) (v : Value) (vs : List Value) (F : List (List Int)) (B bx : Nat) (w : World) (h : Frm w B bx n p v vs F) (g : Good n F) (h2 : 2 ≤ n) (h6 : n ≤ 6) (hl : F.length ≤ 500) (hp : -1000000 ≤ p ∧ p ≤ 1000000) (hB : B ≤ w.heap.size) :
    Calls Try.prog 46 #[.pointer (some ⟨bx, 0, none⟩)] w fun e w' => ∃ T v' vs', (∃ u, e = .returned u) ∧ Reach n F T ∧ Tight n T ∧ Frm w' B bx n (strip n p T).1 v' vs' (strip n p T).2 ∧ Below B w w' := by
  have sv := h.rows.own.isSl
  have lv := h.rows.own.len
  rw [h.rows.len] at lv
  obtain ⟨L, hL⟩ : ∃ L, F.length = L := ⟨_, rfl⟩
  rw [hL] at lv hl
  have H := Lib.hid h; have HG := Lib.hid g; have HL := Lib.hid hL; have HLT := Lib.hid h.lt
  clear h g hL
  go_enter Try.func46, Try.ntmps46
  go_wp2_with fail
  go_loopw [2] (fun mv wr => ∃ (m : Bool) (G : List (List Int)), mv = .bool m ∧ Frm wr B bx n p v vs G ∧ Reach n F G ∧ (m = false → Tight n G) ∧ Below B w wr) (fun mv wr => mu (readF wr vs n) + boolN mv)
  case atStart => exact ⟨true, F, rfl, H.out, .refl _, (fun h => by cases h), Below.refl _ _⟩
  case round =>
    obtain ⟨m, G, rfl, hf, hr, ht, hb⟩ := hrel
    have HF := Lib.hid hf; have HR := Lib.hid hr; have HT := Lib.hid ht; have HB := Lib.hid hb
    have c2 := hf.c2
    clear hf hr ht hb
    cases m with
    | true =>
      go_wp2_with fail
      rename World => W0
      go_loopw [2, 3] (fun mv zv wr => ∃ (m2 : Bool) (z : Int) (G2 : List (List Int)), mv = .bool m2 ∧ zv = .int .i64 z ∧ -1 ≤ z ∧ z ≤ (L : Int) - 1 ∧ Frm wr B bx n p v vs G2 ∧ Reach n G G2 ∧ (m2 = false → G2 = G ∧ ∀ j : Nat, z ≤ j → j + 1 < L → ∀ i, i + 1 < n → dn (nthr G (j + 1)) i → ¬ up (nthr G j) i) ∧ (m2 = true → mu G2 < mu G) ∧ Below B w wr) (fun _ zv _ => (intOf zv).toNat)
      case atStart => exact ⟨false, (L : Int) - 1, G, rfl, rfl, by omega, by omega, HF.out, .refl _, (fun _ => ⟨rfl, fun j h1 h2 => by omega⟩), (fun h => by cases h), HB.out⟩
      case round =>
        obtain ⟨m2, z, G2, rfl, rfl, hz1, hz2, hf2, hr2, hm0, hm1, hb2⟩ := hrel
        have hlen : G2.length = L := by rw [hr2.len, HR.out.len, HL.out]
        have hg2 := hr2.good (HR.out.good HG.out)
        by_cases hz : 0 < z
        · obtain ⟨i, rfl⟩ : ∃ i : Nat, z = (i : Int) + 1 := ⟨(z - 1).toNat, by omega⟩
          have hi : i + 1 < L := by omega
          have d2 := hf2.c2
          have hvl := hf2.rows.len
          have k1 := hf2.rows.own.cell (j := i) (by omega)
          have k2 := hf2.rows.own.cell (j := i + 1) (by omega)
          have e1 : vs[i]'(by omega) = nthv vs i := by simp [nthv, show i < vs.length by omega]
          have e2 : vs[i + 1]'(by omega) = nthv vs (i + 1) := by simp [nthv, show i + 1 < vs.length by omega]
          rw [e1] at k1
          rw [e2] at k2
          have ra := hf2.rows.row i (by omega)
          have rb := hf2.rows.row (i + 1) (by omega)
          have pa : Pn n (nthr G2 i) := by rw [nthr_lt (by omega)]; exact hg2 _ (List.getElem_mem _)
          have pb : Pn n (nthr G2 (i + 1)) := by rw [nthr_lt (by omega)]; exact hg2 _ (List.getElem_mem _)
          have hne := hf2.rows.each i (i + 1) (by omega) (by omega)
          have sa := ra.isSl; have sb := rb.isSl
          have HF2 := Lib.hid hf2; have HR2 := Lib.hid hr2; have HM0 := Lib.hid hm0; have HM1 := Lib.hid hm1; have HB2 := Lib.hid hb2; have HLEN := Lib.hid hlen; have HG2 := Lib.hid hg2; have HV := Lib.hid hvl
          obtain ⟨qa, hqa⟩ : ∃ q, nthv vs i = q := ⟨_, rfl⟩
          obtain ⟨qb, hqb⟩ : ∃ q, nthv vs (i + 1) = q := ⟨_, rfl⟩
          have HQA := Lib.hid hqa; have HQB := Lib.hid hqb
          have w3 : IntKind.i64.wrap (i : Int) = (i : Int) := IntWalk.i64_in _ ⟨by omega, by omega⟩
          have w4 : IntKind.i64.wrap ((i : Int) + 1 + -1) = (i : Int) := by rw [show (i : Int) + 1 + -1 = i by omega]; exact IntWalk.i64_in _ ⟨by omega, by omega⟩
          have hL0 : (i : Int) < (L : Int) := by omega
          have hL1 : (i : Int) + 1 < (L : Int) := by omega
          have hi0 : (0 : Int) ≤ (i : Int) := by omega
          have hi1 : (0 : Int) ≤ (i : Int) + 1 := by omega
          have hiz : ((i : Int) + 1).toNat = i + 1 := by omega
          have w1 : IntKind.i64.wrap ((i : Int) + 1 - 1) = (i : Int) := by rw [show (i : Int) + 1 - 1 = i by omega]; exact IntWalk.i64_in _ ⟨by omega, by omega⟩
          have w2 : (i : Int) + 1 - 1 = (i : Int) := by omega
          rw [hqa] at k1 sa ra hne
          rw [hqb] at k2 sb rb hne
          have hkeep : ∀ wt, Chd wr.drew wt (fun k => k = vblk qa ∨ k = vblk qb) → wt.cell? ⟨bx, 2, none⟩ = some v ∧ wt.cell? (vat v i) = some qa ∧ wt.cell? (vat v (i + 1)) = some qb := fun wt hc => by
            have n1 : ¬ (bx = vblk qa ∨ bx = vblk qb) := by
              rw [← hqa, ← hqb]
              rintro (e | e)
              · exact hf2.rowNe (i := i) (by omega) e
              · exact hf2.rowNe (i := i + 1) (by omega) e
            have hrv : Go.Sl.row v = some (vblk v) := row_some (hf2.rows.own.cap_of (j := i) (by omega))
            have n2 : ¬ (vblk v = vblk qa ∨ vblk v = vblk qb) := by
              rw [← hqa, ← hqb]
              rintro (e | e)
              · exact hf2.rows.apart (i := i) (by omega) (by rw [hrv, e])
              · exact hf2.rows.apart (i := i + 1) (by omega) (by rw [hrv, e])
            have l2 : vblk v < wr.heap.size := (hf2.rows.own.lt _ hrv).2
            exact ⟨(hc.cell hf2.lt n1 2).trans d2, (hc.cell l2 n2 _).trans k1, (hc.cell l2 n2 _).trans k2⟩
          have HKEEP := Lib.hid hkeep; clear hkeep
          by_cases htt : ∀ t, t + 1 < n → dn (nthr G2 (i + 1)) t → ¬ up (nthr G2 i) t
          · have HTI := Lib.hid (fun W (hW : Below wr.heap.size wr W) => tighten_no n qa qb _ _ B W (ra.below hW) (rb.below hW) pa pb h2 h6 hne htt)
            have HTT := Lib.hid htt
            clear hf2 hr2 hm0 hm1 hb2 hlen hg2 e1 e2 ra rb pa pb hne hqa hqb hvl htt
            go_wp2_with fail
            refine wp_region_held_drew (S := fun w => w.cell? ⟨bx, 2, none⟩ = some v ∧ w.cell? (vat v i) = some qa ∧ w.cell? (vat v (i + 1)) = some qb) (by kernel_rfl) (⟨d2, k1, k2⟩) (fun hHeld => ?_)
            refine' wpAnyH_take (i := 0) (oi := ?oiz1) (v := ?vz1) ?haz1 (by kernel_rfl) ?hfz1 ?hrz1 ?hQz1 (Or.inl ⟨?hwz1, ?hyz1⟩) (by assumption) ?restz1
            case haz1 => (simp only [List.getElem?_toArray, List.getElem?_cons_zero]; exact rfl)
            case hQz1 => exact fun _ _ _ h => h
            case hfz1 => kernel_rfl
            case hrz1 => kernel_rfl
            case hwz1 => rfl
            case hyz1 => (intro w hSw; (try dsimp only at hSw); obtain ⟨e0, e1, e2⟩ := hSw; go_simp; (try with_reducible rfl))
            try simp only [Act.put, List.setIfInBounds_toArray, List.set_cons_zero, List.set_cons_succ]
            refine' wpAnyH_take (i := 1) (oi := ?oiz2) (v := ?vz2) ?haz2 (by kernel_rfl) ?hfz2 ?hrz2 ?hQz2 (Or.inl ⟨?hwz2, ?hyz2⟩) (by assumption) ?restz2
            case haz2 => (simp only [List.getElem?_toArray, List.getElem?_cons_succ, List.getElem?_cons_zero]; exact rfl)
            case hQz2 => exact fun _ _ _ h => h
            case hfz2 => kernel_rfl
            case hrz2 => kernel_rfl
            case hwz2 => rfl
            case hyz2 => (intro w hSw; (try dsimp only at hSw); obtain ⟨e0, e1, e2⟩ := hSw; go_simp; (try with_reducible rfl))
            try simp only [Act.put, List.setIfInBounds_toArray, List.set_cons_zero, List.set_cons_succ]
            refine' wpAnyH_take (i := 2) (oi := ?oiz3) (v := ?vz3) ?haz3 (by kernel_rfl) ?hfz3 ?hrz3 ?hQz3 (Or.inl ⟨?hwz3, ?hyz3⟩) (by assumption) ?restz3
            case haz3 => (simp only [List.getElem?_toArray, List.getElem?_cons_succ, List.getElem?_cons_zero]; exact rfl)
            case hQz3 => exact fun _ _ _ h => h
            case hfz3 => kernel_rfl
            case hrz3 => kernel_rfl
            case hwz3 => rfl
            case hyz3 => (intro w hSw; (try dsimp only at hSw); obtain ⟨e0, e1, e2⟩ := hSw; go_simp; (try with_reducible rfl))
            try simp only [Act.put, List.setIfInBounds_toArray, List.set_cons_zero, List.set_cons_succ]
            refine' wpAnyH_take (i := 3) (oi := ?oiz4) (v := ?vz4) ?haz4 (by kernel_rfl) ?hfz4 ?hrz4 ?hQz4 (Or.inl ⟨?hwz4, ?hyz4⟩) (by assumption) ?restz4
            case haz4 => (simp only [List.getElem?_toArray, List.getElem?_cons_succ, List.getElem?_cons_zero]; exact rfl)
            case hQz4 => exact fun _ _ _ h => h
            case hfz4 => kernel_rfl
            case hrz4 => kernel_rfl
            case hwz4 => rfl
            case hyz4 => (intro w hSw; (try dsimp only at hSw); obtain ⟨e0, e1, e2⟩ := hSw; go_simp; (try with_reducible rfl))
            try simp only [Act.put, List.setIfInBounds_toArray, List.set_cons_zero, List.set_cons_succ]
            refine' wpAnyH_take (i := 4) (oi := ?oiz5) (v := ?vz5) ?haz5 (by kernel_rfl) ?hfz5 ?hrz5 ?hQz5 (Or.inl ⟨?hwz5, ?hyz5⟩) (by assumption) ?restz5
            case haz5 => (simp only [List.getElem?_toArray, List.getElem?_cons_succ, List.getElem?_cons_zero]; exact rfl)
            case hQz5 => exact fun _ _ _ h => h
            case hfz5 => kernel_rfl
            case hrz5 => kernel_rfl
            case hwz5 => rfl
            case hyz5 => (intro w hSw; (try dsimp only at hSw); obtain ⟨e0, e1, e2⟩ := hSw; go_simp; (try with_reducible rfl))
            try simp only [Act.put, List.setIfInBounds_toArray, List.set_cons_zero, List.set_cons_succ]
            refine' wpAnyH_take (i := 5) (oi := ?oiz6) (v := ?vz6) ?haz6 (by kernel_rfl) ?hfz6 ?hrz6 ?hQz6 (Or.inl ⟨?hwz6, ?hyz6⟩) (by assumption) ?restz6
            case haz6 => (simp only [List.getElem?_toArray, List.getElem?_cons_succ, List.getElem?_cons_zero]; exact rfl)
            case hQz6 => exact fun _ _ _ h => h
            case hfz6 => kernel_rfl
            case hrz6 => kernel_rfl
            case hwz6 => rfl
            case hyz6 => (intro w hSw; (try dsimp only at hSw); obtain ⟨e0, e1, e2⟩ := hSw; go_simp; (try with_reducible rfl))
            try simp only [Act.put, List.setIfInBounds_toArray, List.set_cons_zero, List.set_cons_succ]
            refine' wpAnyH_take (i := 6) (oi := ?oiz7) (v := ?vz7) ?haz7 (by kernel_rfl) ?hfz7 ?hrz7 ?hQz7 (Or.inl ⟨?hwz7, ?hyz7⟩) (by assumption) ?restz7
            case haz7 => (simp only [List.getElem?_toArray, List.getElem?_cons_succ, List.getElem?_cons_zero]; exact rfl)
            case hQz7 => exact fun _ _ _ h => h
            case hfz7 => kernel_rfl
            case hrz7 => kernel_rfl
            case hwz7 => rfl
            case hyz7 => (intro w hSw; (try dsimp only at hSw); obtain ⟨e0, e1, e2⟩ := hSw; go_simp; (try with_reducible rfl))
            try simp only [Act.put, List.setIfInBounds_toArray, List.set_cons_zero, List.set_cons_succ]
            refine' wpAnyH_take (i := 7) (oi := ?oiz8) (v := ?vz8) ?haz8 (by kernel_rfl) ?hfz8 ?hrz8 ?hQz8 (Or.inl ⟨?hwz8, ?hyz8⟩) (by assumption) ?restz8
            case haz8 => (simp only [List.getElem?_toArray, List.getElem?_cons_succ, List.getElem?_cons_zero]; exact rfl)
            case hQz8 => exact fun _ _ _ h => h
            case hfz8 => kernel_rfl
            case hrz8 => kernel_rfl
            case hwz8 => rfl
            case hyz8 => (intro w hSw; (try dsimp only at hSw); obtain ⟨e0, e1, e2⟩ := hSw; go_simp; (try with_reducible rfl))
            try simp only [Act.put, List.setIfInBounds_toArray, List.set_cons_zero, List.set_cons_succ]
            refine' wpAnyH_take (i := 8) (oi := ?oiz9) (v := ?vz9) ?haz9 (by kernel_rfl) ?hfz9 ?hrz9 ?hQz9 (Or.inl ⟨?hwz9, ?hyz9⟩) (by assumption) ?restz9
            case haz9 => (simp only [List.getElem?_toArray, List.getElem?_cons_succ, List.getElem?_cons_zero]; exact rfl)
            case hQz9 => exact fun _ _ _ h => h
            case hfz9 => kernel_rfl
            case hrz9 => kernel_rfl
            case hwz9 => rfl
            case hyz9 => (intro w hSw; (try dsimp only at hSw); obtain ⟨e0, e1, e2⟩ := hSw; go_simp; (try with_reducible rfl))
            try simp only [Act.put, List.setIfInBounds_toArray, List.set_cons_zero, List.set_cons_succ]
            refine' wpAnyH_take (i := 9) (oi := ?oiz10) (v := ?vz10) ?haz10 (by kernel_rfl) ?hfz10 ?hrz10 ?hQz10 (Or.inl ⟨?hwz10, ?hyz10⟩) (by assumption) ?restz10
            case haz10 => (simp only [List.getElem?_toArray, List.getElem?_cons_succ, List.getElem?_cons_zero]; exact rfl)
            case hQz10 => exact fun _ _ _ h => h
            case hfz10 => kernel_rfl
            case hrz10 => kernel_rfl
            case hwz10 => rfl
            case hyz10 => (intro w hSw; (try dsimp only at hSw); obtain ⟨e0, e1, e2⟩ := hSw; go_simp; (try with_reducible rfl))
            try simp only [Act.put, List.setIfInBounds_toArray, List.set_cons_zero, List.set_cons_succ]
            refine' wpAnyH_take (i := 10) (oi := ?oiz11) (v := ?vz11) ?haz11 (by kernel_rfl) ?hfz11 ?hrz11 ?hQz11 (Or.inl ⟨?hwz11, ?hyz11⟩) (by assumption) ?restz11
            case haz11 => (simp only [List.getElem?_toArray, List.getElem?_cons_succ, List.getElem?_cons_zero]; exact rfl)
            case hQz11 => exact fun _ _ _ h => h
            case hfz11 => kernel_rfl
            case hrz11 => kernel_rfl
            case hwz11 => rfl
            case hyz11 => (intro w hSw; (try dsimp only at hSw); obtain ⟨e0, e1, e2⟩ := hSw; go_simp; (try with_reducible rfl))
            try simp only [Act.put, List.setIfInBounds_toArray, List.set_cons_zero, List.set_cons_succ]
            refine' wpAnyH_take (i := 11) (oi := ?oiz12) (v := ?vz12) ?haz12 (by kernel_rfl) ?hfz12 ?hrz12 ?hQz12 (Or.inl ⟨?hwz12, ?hyz12⟩) (by assumption) ?restz12
            case haz12 => (simp only [List.getElem?_toArray, List.getElem?_cons_succ, List.getElem?_cons_zero]; exact rfl)
            case hQz12 => exact fun _ _ _ h => h
            case hfz12 => kernel_rfl
            case hrz12 => kernel_rfl
            case hwz12 => rfl
            case hyz12 => (intro w hSw; (try dsimp only at hSw); obtain ⟨e0, e1, e2⟩ := hSw; go_simp; (try with_reducible rfl))
            try simp only [Act.put, List.setIfInBounds_toArray, List.set_cons_zero, List.set_cons_succ]
            refine' wpAnyH_take (i := 12) (oi := ?oiz13) (v := ?vz13) ?haz13 (by kernel_rfl) ?hfz13 ?hrz13 ?hQz13 (Or.inl ⟨?hwz13, ?hyz13⟩) (by assumption) ?restz13
            case haz13 => (simp only [List.getElem?_toArray, List.getElem?_cons_succ, List.getElem?_cons_zero]; exact rfl)
            case hQz13 => exact fun _ _ _ h => h
            case hfz13 => kernel_rfl
            case hrz13 => kernel_rfl
            case hwz13 => rfl
            case hyz13 => (intro w hSw; (try dsimp only at hSw); obtain ⟨e0, e1, e2⟩ := hSw; go_simp; (try with_reducible rfl))
            try simp only [Act.put, List.setIfInBounds_toArray, List.set_cons_zero, List.set_cons_succ]
            refine' wpAnyH_take (i := 13) (oi := ?oiz14) (v := ?vz14) ?haz14 (by kernel_rfl) ?hfz14 ?hrz14 ?hQz14 (Or.inl ⟨?hwz14, ?hyz14⟩) (by assumption) ?restz14
            case haz14 => (simp only [List.getElem?_toArray, List.getElem?_cons_succ, List.getElem?_cons_zero]; exact rfl)
            case hQz14 => exact fun _ _ _ h => h
            case hfz14 => kernel_rfl
            case hrz14 => kernel_rfl
            case hwz14 => rfl
            case hyz14 => (intro w hSw; (try dsimp only at hSw); obtain ⟨e0, e1, e2⟩ := hSw; go_simp; (try with_reducible rfl))
            try simp only [Act.put, List.setIfInBounds_toArray, List.set_cons_zero, List.set_cons_succ]
            refine' wpAnyH_take (i := 14) (oi := ?oiz15) (v := ?vz15) ?haz15 (by kernel_rfl) ?hfz15 ?hrz15 ?hQz15 (Or.inl ⟨?hwz15, ?hyz15⟩) (by assumption) ?restz15
            case haz15 => (simp only [List.getElem?_toArray, List.getElem?_cons_succ, List.getElem?_cons_zero]; exact rfl)
            case hQz15 => exact fun _ _ _ h => h
            case hfz15 => kernel_rfl
            case hrz15 => kernel_rfl
            case hwz15 => rfl
            case hyz15 => (intro w hSw; (try dsimp only at hSw); obtain ⟨e0, e1, e2⟩ := hSw; go_simp; (try with_reducible rfl))
            try simp only [Act.put, List.setIfInBounds_toArray, List.set_cons_zero, List.set_cons_succ]
            refine wpAnyH_ready (rs := [15]) (by kernel_rfl) (by simp) ?_
            refine' AllReadyH.cons (o := ?oiz16) ?haz16 (fun K hK => ?stepz16) AllReadyH.nil
            case haz16 => (simp only [List.getElem?_toArray, List.getElem?_cons_succ, List.getElem?_cons_zero]; exact rfl)
            go_simp
            go_at_call 49
            refine (HTI.out _ (Below.refl _ _).drew).mono ?_
            rintro e wt ⟨rfl, ht⟩
            obtain ⟨to1, to2, tch⟩ := ht
            have TO1 := Lib.hid to1; have TO2 := Lib.hid to2; have TCH := Lib.hid tch
            clear to1 to2 tch
            refine hK.out _ _ (HKEEP.out wt TCH.out) (fun hHeld => ?_)
            clear hK K
            try simp only [Act.put, List.setIfInBounds_toArray, List.set_cons_zero, List.set_cons_succ]
            refine' wpAnyH_take (i := 16) (oi := ?oiz17) (v := ?vz17) ?haz17 (by kernel_rfl) ?hfz17 ?hrz17 ?hQz17 (Or.inl ⟨?hwz17, ?hyz17⟩) (by assumption) ?restz17
            case haz17 => (simp only [List.getElem?_toArray, List.getElem?_cons_succ, List.getElem?_cons_zero]; exact rfl)
            case hQz17 => exact fun _ _ _ h => h
            case hfz17 => kernel_rfl
            case hrz17 => kernel_rfl
            case hwz17 => rfl
            case hyz17 => (intro w hSw; (try dsimp only at hSw); obtain ⟨e0, e1, e2⟩ := hSw; go_simp; (try with_reducible rfl))
            try simp only [Act.put, List.setIfInBounds_toArray, List.set_cons_zero, List.set_cons_succ]
            refine' wpAnyH_take (i := 17) (oi := ?oiz18) (v := ?vz18) ?haz18 (by kernel_rfl) ?hfz18 ?hrz18 ?hQz18 (Or.inl ⟨?hwz18, ?hyz18⟩) (by assumption) ?restz18
            case haz18 => (simp only [List.getElem?_toArray, List.getElem?_cons_succ, List.getElem?_cons_zero]; exact rfl)
            case hQz18 => exact fun _ _ _ h => h
            case hfz18 => kernel_rfl
            case hrz18 => kernel_rfl
            case hwz18 => rfl
            case hyz18 => (intro w hSw; (try dsimp only at hSw); obtain ⟨e0, e1, e2⟩ := hSw; go_simp; (try with_reducible rfl))
            try simp only [Act.put, List.setIfInBounds_toArray, List.set_cons_zero, List.set_cons_succ]
            refine' wpAnyH_take (i := 18) (oi := ?oiz19) (v := ?vz19) ?haz19 (by kernel_rfl) ?hfz19 ?hrz19 ?hQz19 (Or.inl ⟨?hwz19, ?hyz19⟩) (by assumption) ?restz19
            case haz19 => (simp only [List.getElem?_toArray, List.getElem?_cons_succ, List.getElem?_cons_zero]; exact rfl)
            case hQz19 => exact fun _ _ _ h => h
            case hfz19 => kernel_rfl
            case hrz19 => kernel_rfl
            case hwz19 => rfl
            case hyz19 => (intro w hSw; (try dsimp only at hSw); obtain ⟨e0, e1, e2⟩ := hSw; go_simp; (try with_reducible rfl))
            try simp only [Act.put, List.setIfInBounds_toArray, List.set_cons_zero, List.set_cons_succ]
            refine' wpAnyH_take (i := 19) (oi := ?oiz20) (v := ?vz20) ?haz20 (by kernel_rfl) ?hfz20 ?hrz20 ?hQz20 (Or.inl ⟨?hwz20, ?hyz20⟩) (by assumption) ?restz20
            case haz20 => (simp only [List.getElem?_toArray, List.getElem?_cons_succ, List.getElem?_cons_zero]; exact rfl)
            case hQz20 => exact fun _ _ _ h => h
            case hfz20 => kernel_rfl
            case hrz20 => kernel_rfl
            case hwz20 => rfl
            case hyz20 => (intro w hSw; (try dsimp only at hSw); obtain ⟨e0, e1, e2⟩ := hSw; go_simp; (try with_reducible rfl))
            try simp only [Act.put, List.setIfInBounds_toArray, List.set_cons_zero, List.set_cons_succ]
            refine wpAnyH_done (by kernel_rfl) ?_ _
            go_wp2_with fail
            go_roundw
            case rel =>
              have hc := (Chd.of_below (Below.refl _ _).drew).trans TCH.out
              have h1 := TO1.out; have h2' := TO2.out
              rw [← HQA.out] at h1 hc
              rw [← HQB.out] at h2' hc
              refine ⟨m2, i, G2, rfl, by go_num, by omega, by omega, HF2.out.pairSame (by rw [HLEN.out]; exact hi) hc h1 h2', HR2.out, fun e => ?_, HM1.out, ?_⟩
              · obtain ⟨e1, e2⟩ := HM0.out e
                refine ⟨e1, fun j hj1 hj2 => ?_⟩
                rcases Nat.lt_or_ge i j with g | g
                · exact e2 j (by omega) hj2
                · obtain rfl : j = i := by omega
                  rw [← e1]; exact HTT.out
              · refine HB2.out.trans (hc.below (by have := HF2.out.ge; have := HF2.out.lt; omega) ?_)
                rintro k (rfl | rfl)
                · exact (HF2.out.rows.blk (i := i) (by rw [HLEN.out]; omega)).1
                · exact (HF2.out.rows.blk (i := i + 1) (by rw [HLEN.out]; omega)).1
            case measure => simp [intOf]
          · have HTI := Lib.hid (fun W (hW : Below wr.heap.size wr W) => tighten_yes n qa qb _ _ B W (ra.below hW) (rb.below hW) pa pb h2 h6 hne htt)
            clear hf2 hr2 hm0 hm1 hb2 hlen hg2 e1 e2 ra rb pa pb hne hqa hqb hvl htt
            go_wp2_with fail
            refine wp_region_held_drew (S := fun w => w.cell? ⟨bx, 2, none⟩ = some v ∧ w.cell? (vat v i) = some qa ∧ w.cell? (vat v (i + 1)) = some qb) (by kernel_rfl) (⟨d2, k1, k2⟩) (fun hHeld => ?_)
            refine' wpAnyH_take (i := 0) (oi := ?oiz21) (v := ?vz21) ?haz21 (by kernel_rfl) ?hfz21 ?hrz21 ?hQz21 (Or.inl ⟨?hwz21, ?hyz21⟩) (by assumption) ?restz21
            case haz21 => (simp only [List.getElem?_toArray, List.getElem?_cons_zero]; exact rfl)
            case hQz21 => exact fun _ _ _ h => h
            case hfz21 => kernel_rfl
            case hrz21 => kernel_rfl
            case hwz21 => rfl
            case hyz21 => (intro w hSw; (try dsimp only at hSw); obtain ⟨e0, e1, e2⟩ := hSw; go_simp; (try with_reducible rfl))
            try simp only [Act.put, List.setIfInBounds_toArray, List.set_cons_zero, List.set_cons_succ]
            refine' wpAnyH_take (i := 1) (oi := ?oiz22) (v := ?vz22) ?haz22 (by kernel_rfl) ?hfz22 ?hrz22 ?hQz22 (Or.inl ⟨?hwz22, ?hyz22⟩) (by assumption) ?restz22
            case haz22 => (simp only [List.getElem?_toArray, List.getElem?_cons_succ, List.getElem?_cons_zero]; exact rfl)
            case hQz22 => exact fun _ _ _ h => h
            case hfz22 => kernel_rfl
            case hrz22 => kernel_rfl
            case hwz22 => rfl
            case hyz22 => (intro w hSw; (try dsimp only at hSw); obtain ⟨e0, e1, e2⟩ := hSw; go_simp; (try with_reducible rfl))
            try simp only [Act.put, List.setIfInBounds_toArray, List.set_cons_zero, List.set_cons_succ]
            refine' wpAnyH_take (i := 2) (oi := ?oiz23) (v := ?vz23) ?haz23 (by kernel_rfl) ?hfz23 ?hrz23 ?hQz23 (Or.inl ⟨?hwz23, ?hyz23⟩) (by assumption) ?restz23
            case haz23 => (simp only [List.getElem?_toArray, List.getElem?_cons_succ, List.getElem?_cons_zero]; exact rfl)
            case hQz23 => exact fun _ _ _ h => h
            case hfz23 => kernel_rfl
            case hrz23 => kernel_rfl
            case hwz23 => rfl
            case hyz23 => (intro w hSw; (try dsimp only at hSw); obtain ⟨e0, e1, e2⟩ := hSw; go_simp; (try with_reducible rfl))
            try simp only [Act.put, List.setIfInBounds_toArray, List.set_cons_zero, List.set_cons_succ]
            refine' wpAnyH_take (i := 3) (oi := ?oiz24) (v := ?vz24) ?haz24 (by kernel_rfl) ?hfz24 ?hrz24 ?hQz24 (Or.inl ⟨?hwz24, ?hyz24⟩) (by assumption) ?restz24
            case haz24 => (simp only [List.getElem?_toArray, List.getElem?_cons_succ, List.getElem?_cons_zero]; exact rfl)
            case hQz24 => exact fun _ _ _ h => h
            case hfz24 => kernel_rfl
            case hrz24 => kernel_rfl
            case hwz24 => rfl
            case hyz24 => (intro w hSw; (try dsimp only at hSw); obtain ⟨e0, e1, e2⟩ := hSw; go_simp; (try with_reducible rfl))
            try simp only [Act.put, List.setIfInBounds_toArray, List.set_cons_zero, List.set_cons_succ]
            refine' wpAnyH_take (i := 4) (oi := ?oiz25) (v := ?vz25) ?haz25 (by kernel_rfl) ?hfz25 ?hrz25 ?hQz25 (Or.inl ⟨?hwz25, ?hyz25⟩) (by assumption) ?restz25
            case haz25 => (simp only [List.getElem?_toArray, List.getElem?_cons_succ, List.getElem?_cons_zero]; exact rfl)
            case hQz25 => exact fun _ _ _ h => h
            case hfz25 => kernel_rfl
            case hrz25 => kernel_rfl
            case hwz25 => rfl
            case hyz25 => (intro w hSw; (try dsimp only at hSw); obtain ⟨e0, e1, e2⟩ := hSw; go_simp; (try with_reducible rfl))
            try simp only [Act.put, List.setIfInBounds_toArray, List.set_cons_zero, List.set_cons_succ]
            refine' wpAnyH_take (i := 5) (oi := ?oiz26) (v := ?vz26) ?haz26 (by kernel_rfl) ?hfz26 ?hrz26 ?hQz26 (Or.inl ⟨?hwz26, ?hyz26⟩) (by assumption) ?restz26
            case haz26 => (simp only [List.getElem?_toArray, List.getElem?_cons_succ, List.getElem?_cons_zero]; exact rfl)
            case hQz26 => exact fun _ _ _ h => h
            case hfz26 => kernel_rfl
            case hrz26 => kernel_rfl
            case hwz26 => rfl
            case hyz26 => (intro w hSw; (try dsimp only at hSw); obtain ⟨e0, e1, e2⟩ := hSw; go_simp; (try with_reducible rfl))
            try simp only [Act.put, List.setIfInBounds_toArray, List.set_cons_zero, List.set_cons_succ]
            refine' wpAnyH_take (i := 6) (oi := ?oiz27) (v := ?vz27) ?haz27 (by kernel_rfl) ?hfz27 ?hrz27 ?hQz27 (Or.inl ⟨?hwz27, ?hyz27⟩) (by assumption) ?restz27
            case haz27 => (simp only [List.getElem?_toArray, List.getElem?_cons_succ, List.getElem?_cons_zero]; exact rfl)
            case hQz27 => exact fun _ _ _ h => h
            case hfz27 => kernel_rfl
            case hrz27 => kernel_rfl
            case hwz27 => rfl
            case hyz27 => (intro w hSw; (try dsimp only at hSw); obtain ⟨e0, e1, e2⟩ := hSw; go_simp; (try with_reducible rfl))
            try simp only [Act.put, List.setIfInBounds_toArray, List.set_cons_zero, List.set_cons_succ]
            refine' wpAnyH_take (i := 7) (oi := ?oiz28) (v := ?vz28) ?haz28 (by kernel_rfl) ?hfz28 ?hrz28 ?hQz28 (Or.inl ⟨?hwz28, ?hyz28⟩) (by assumption) ?restz28
            case haz28 => (simp only [List.getElem?_toArray, List.getElem?_cons_succ, List.getElem?_cons_zero]; exact rfl)
            case hQz28 => exact fun _ _ _ h => h
            case hfz28 => kernel_rfl
            case hrz28 => kernel_rfl
            case hwz28 => rfl
            case hyz28 => (intro w hSw; (try dsimp only at hSw); obtain ⟨e0, e1, e2⟩ := hSw; go_simp; (try with_reducible rfl))
            try simp only [Act.put, List.setIfInBounds_toArray, List.set_cons_zero, List.set_cons_succ]
            refine' wpAnyH_take (i := 8) (oi := ?oiz29) (v := ?vz29) ?haz29 (by kernel_rfl) ?hfz29 ?hrz29 ?hQz29 (Or.inl ⟨?hwz29, ?hyz29⟩) (by assumption) ?restz29
            case haz29 => (simp only [List.getElem?_toArray, List.getElem?_cons_succ, List.getElem?_cons_zero]; exact rfl)
            case hQz29 => exact fun _ _ _ h => h
            case hfz29 => kernel_rfl
            case hrz29 => kernel_rfl
            case hwz29 => rfl
            case hyz29 => (intro w hSw; (try dsimp only at hSw); obtain ⟨e0, e1, e2⟩ := hSw; go_simp; (try with_reducible rfl))
            try simp only [Act.put, List.setIfInBounds_toArray, List.set_cons_zero, List.set_cons_succ]
            refine' wpAnyH_take (i := 9) (oi := ?oiz30) (v := ?vz30) ?haz30 (by kernel_rfl) ?hfz30 ?hrz30 ?hQz30 (Or.inl ⟨?hwz30, ?hyz30⟩) (by assumption) ?restz30
            case haz30 => (simp only [List.getElem?_toArray, List.getElem?_cons_succ, List.getElem?_cons_zero]; exact rfl)
            case hQz30 => exact fun _ _ _ h => h
            case hfz30 => kernel_rfl
            case hrz30 => kernel_rfl
            case hwz30 => rfl
            case hyz30 => (intro w hSw; (try dsimp only at hSw); obtain ⟨e0, e1, e2⟩ := hSw; go_simp; (try with_reducible rfl))
            try simp only [Act.put, List.setIfInBounds_toArray, List.set_cons_zero, List.set_cons_succ]
            refine' wpAnyH_take (i := 10) (oi := ?oiz31) (v := ?vz31) ?haz31 (by kernel_rfl) ?hfz31 ?hrz31 ?hQz31 (Or.inl ⟨?hwz31, ?hyz31⟩) (by assumption) ?restz31
            case haz31 => (simp only [List.getElem?_toArray, List.getElem?_cons_succ, List.getElem?_cons_zero]; exact rfl)
            case hQz31 => exact fun _ _ _ h => h
            case hfz31 => kernel_rfl
            case hrz31 => kernel_rfl
            case hwz31 => rfl
            case hyz31 => (intro w hSw; (try dsimp only at hSw); obtain ⟨e0, e1, e2⟩ := hSw; go_simp; (try with_reducible rfl))
            try simp only [Act.put, List.setIfInBounds_toArray, List.set_cons_zero, List.set_cons_succ]
            refine' wpAnyH_take (i := 11) (oi := ?oiz32) (v := ?vz32) ?haz32 (by kernel_rfl) ?hfz32 ?hrz32 ?hQz32 (Or.inl ⟨?hwz32, ?hyz32⟩) (by assumption) ?restz32
            case haz32 => (simp only [List.getElem?_toArray, List.getElem?_cons_succ, List.getElem?_cons_zero]; exact rfl)
            case hQz32 => exact fun _ _ _ h => h
            case hfz32 => kernel_rfl
            case hrz32 => kernel_rfl
            case hwz32 => rfl
            case hyz32 => (intro w hSw; (try dsimp only at hSw); obtain ⟨e0, e1, e2⟩ := hSw; go_simp; (try with_reducible rfl))
            try simp only [Act.put, List.setIfInBounds_toArray, List.set_cons_zero, List.set_cons_succ]
            refine' wpAnyH_take (i := 12) (oi := ?oiz33) (v := ?vz33) ?haz33 (by kernel_rfl) ?hfz33 ?hrz33 ?hQz33 (Or.inl ⟨?hwz33, ?hyz33⟩) (by assumption) ?restz33
            case haz33 => (simp only [List.getElem?_toArray, List.getElem?_cons_succ, List.getElem?_cons_zero]; exact rfl)
            case hQz33 => exact fun _ _ _ h => h
            case hfz33 => kernel_rfl
            case hrz33 => kernel_rfl
            case hwz33 => rfl
            case hyz33 => (intro w hSw; (try dsimp only at hSw); obtain ⟨e0, e1, e2⟩ := hSw; go_simp; (try with_reducible rfl))
            try simp only [Act.put, List.setIfInBounds_toArray, List.set_cons_zero, List.set_cons_succ]
            refine' wpAnyH_take (i := 13) (oi := ?oiz34) (v := ?vz34) ?haz34 (by kernel_rfl) ?hfz34 ?hrz34 ?hQz34 (Or.inl ⟨?hwz34, ?hyz34⟩) (by assumption) ?restz34
            case haz34 => (simp only [List.getElem?_toArray, List.getElem?_cons_succ, List.getElem?_cons_zero]; exact rfl)
            case hQz34 => exact fun _ _ _ h => h
            case hfz34 => kernel_rfl
            case hrz34 => kernel_rfl
            case hwz34 => rfl
            case hyz34 => (intro w hSw; (try dsimp only at hSw); obtain ⟨e0, e1, e2⟩ := hSw; go_simp; (try with_reducible rfl))
            try simp only [Act.put, List.setIfInBounds_toArray, List.set_cons_zero, List.set_cons_succ]
            refine' wpAnyH_take (i := 14) (oi := ?oiz35) (v := ?vz35) ?haz35 (by kernel_rfl) ?hfz35 ?hrz35 ?hQz35 (Or.inl ⟨?hwz35, ?hyz35⟩) (by assumption) ?restz35
            case haz35 => (simp only [List.getElem?_toArray, List.getElem?_cons_succ, List.getElem?_cons_zero]; exact rfl)
            case hQz35 => exact fun _ _ _ h => h
            case hfz35 => kernel_rfl
            case hrz35 => kernel_rfl
            case hwz35 => rfl
            case hyz35 => (intro w hSw; (try dsimp only at hSw); obtain ⟨e0, e1, e2⟩ := hSw; go_simp; (try with_reducible rfl))
            try simp only [Act.put, List.setIfInBounds_toArray, List.set_cons_zero, List.set_cons_succ]
            refine wpAnyH_ready (rs := [15]) (by kernel_rfl) (by simp) ?_
            refine' AllReadyH.cons (o := ?oiz36) ?haz36 (fun K hK => ?stepz36) AllReadyH.nil
            case haz36 => (simp only [List.getElem?_toArray, List.getElem?_cons_succ, List.getElem?_cons_zero]; exact rfl)
            go_simp
            go_at_call 49
            refine (HTI.out _ (Below.refl _ _).drew).mono ?_
            rintro e wt ⟨rfl, ht⟩
            obtain ⟨xa, xb, to1, to2, tre, tinv, tch⟩ := ht
            have TRE := Lib.hid tre; have TINV := Lib.hid tinv
            clear tre tinv
            have TO1 := Lib.hid to1; have TO2 := Lib.hid to2; have TCH := Lib.hid tch
            clear to1 to2 tch
            refine hK.out _ _ (HKEEP.out wt TCH.out) (fun hHeld => ?_)
            clear hK K
            try simp only [Act.put, List.setIfInBounds_toArray, List.set_cons_zero, List.set_cons_succ]
            refine' wpAnyH_take (i := 16) (oi := ?oiz37) (v := ?vz37) ?haz37 (by kernel_rfl) ?hfz37 ?hrz37 ?hQz37 (Or.inl ⟨?hwz37, ?hyz37⟩) (by assumption) ?restz37
            case haz37 => (simp only [List.getElem?_toArray, List.getElem?_cons_succ, List.getElem?_cons_zero]; exact rfl)
            case hQz37 => exact fun _ _ _ h => h
            case hfz37 => kernel_rfl
            case hrz37 => kernel_rfl
            case hwz37 => rfl
            case hyz37 => (intro w hSw; (try dsimp only at hSw); obtain ⟨e0, e1, e2⟩ := hSw; go_simp; (try with_reducible rfl))
            try simp only [Act.put, List.setIfInBounds_toArray, List.set_cons_zero, List.set_cons_succ]
            refine' wpAnyH_take (i := 17) (oi := ?oiz38) (v := undef) ?haz38 (by kernel_rfl) ?hfz38 ?hrz38 ?hQz38 (Or.inr ⟨?hwz38, rfl⟩) (by assumption) ?restz38
            case haz38 => (simp only [List.getElem?_toArray, List.getElem?_cons_succ, List.getElem?_cons_zero]; exact rfl)
            case hQz38 => exact fun _ _ _ h => h
            case hfz38 => kernel_rfl
            case hrz38 => kernel_rfl
            case hwz38 => rfl
            try simp only [Act.put, List.setIfInBounds_toArray, List.set_cons_zero, List.set_cons_succ]
            refine' wpAnyH_take (i := 18) (oi := ?oiz39) (v := ?vz39) ?haz39 (by kernel_rfl) ?hfz39 ?hrz39 ?hQz39 (Or.inl ⟨?hwz39, ?hyz39⟩) (by assumption) ?restz39
            case haz39 => (simp only [List.getElem?_toArray, List.getElem?_cons_succ, List.getElem?_cons_zero]; exact rfl)
            case hQz39 => exact fun _ _ _ h => h
            case hfz39 => kernel_rfl
            case hrz39 => kernel_rfl
            case hwz39 => rfl
            case hyz39 => (intro w hSw; (try dsimp only at hSw); obtain ⟨e0, e1, e2⟩ := hSw; go_simp; (try with_reducible rfl))
            try simp only [Act.put, List.setIfInBounds_toArray, List.set_cons_zero, List.set_cons_succ]
            refine' wpAnyH_take (i := 19) (oi := ?oiz40) (v := ?vz40) ?haz40 (by kernel_rfl) ?hfz40 ?hrz40 ?hQz40 (Or.inl ⟨?hwz40, ?hyz40⟩) (by assumption) ?restz40
            case haz40 => (simp only [List.getElem?_toArray, List.getElem?_cons_succ, List.getElem?_cons_zero]; exact rfl)
            case hQz40 => exact fun _ _ _ h => h
            case hfz40 => kernel_rfl
            case hrz40 => kernel_rfl
            case hwz40 => rfl
            case hyz40 => (intro w hSw; (try dsimp only at hSw); obtain ⟨e0, e1, e2⟩ := hSw; go_simp; (try with_reducible rfl))
            try simp only [Act.put, List.setIfInBounds_toArray, List.set_cons_zero, List.set_cons_succ]
            refine wpAnyH_done (by kernel_rfl) ?_ _
            go_wp2_with fail
            go_roundw
            case rel =>
              have hc := (Chd.of_below (Below.refl _ _).drew).trans TCH.out
              have h1 := TO1.out; have h2' := TO2.out
              rw [← HQA.out] at h1 hc
              rw [← HQB.out] at h2' hc
              have hrs := reach_set G2 i (a := xa) (b := xb) (by rw [HLEN.out]; exact hi) TRE.out
              have hgg := TRE.out.good (.cons (pn_nthr HG2.out (j := i) (by rw [HLEN.out]; omega)) (.cons (pn_nthr HG2.out (j := i + 1) (by rw [HLEN.out]; omega)) (good_nil n)))
              refine ⟨true, i, _, rfl, by go_num, by omega, by omega, HF2.out.pair (by rw [HLEN.out]; exact hi) hc h1 h2' (by rw [hgg.hd.len]; omega) (by rw [hgg.tl.hd.len]; omega), HR2.out.trans hrs, (fun e => by cases e), fun _ => ?_, ?_⟩
              · rcases reach_mu hrs HG2.out with e | e
                · have e3 := congrArg (fun l => nthr l (i + 1)) e
                  rw [nthr_put (by rw [List.length_set, HLEN.out]; exact hi), if_pos rfl] at e3
                  have := TINV.out
                  rw [e3] at this
                  omega
                · rcases reach_mu HR2.out (HR.out.good HG.out) with e4 | e4
                  · rw [e4] at e ⊢; exact e
                  · omega
              · refine HB2.out.trans (hc.below (by have := HF2.out.ge; have := HF2.out.lt; omega) ?_)
                rintro k (rfl | rfl)
                · exact (HF2.out.rows.blk (i := i) (by rw [HLEN.out]; omega)).1
                · exact (HF2.out.rows.blk (i := i + 1) (by rw [HLEN.out]; omega)).1
            case measure => simp [intOf]
        · have HF2 := Lib.hid hf2; have HR2 := Lib.hid hr2; have HM0 := Lib.hid hm0; have HM1 := Lib.hid hm1; have HB2 := Lib.hid hb2; have HLEN := Lib.hid hlen; have HG2 := Lib.hid hg2
          clear hf2 hr2 hm0 hm1 hb2 hlen hg2
          go_wp2_with fail
          go_roundw
          case rel =>
            refine ⟨m2, G2, rfl, HF2.out, HR.out.trans HR2.out, fun e => ?_, HB2.out⟩
            obtain ⟨e1, e2⟩ := HM0.out e
            rw [e1]
            refine tight_pairs fun j hj => e2 j (by omega) ?_
            rw [← e1, HLEN.out] at hj; exact hj
          case measure =>
            rw [readF_of HF2.out.rows HG2.out, readF_of HF.out.rows (HR.out.good HG.out)]
            cases m2 with
            | false => rw [(HM0.out rfl).1]; simp [boolN]
            | true => have := HM1.out rfl; simp [boolN]; omega
    | false =>
      rename World => W0
      have hg := HR.out.good HG.out
      have c0 := HF.out.c0
      have hT := HT.out rfl
      have HGG := Lib.hid hg; have HTG := Lib.hid hT
      have HID := Lib.hid (fun W => identity_calls n W (by omega))
      have HHF := Lib.hid (fun W => half_calls n W (by omega))
      clear hg hT
      have HC0 := Lib.hid (fun W (hW : Below W0.heap.size W0 W) => (HF.out.below hW).c0)
      go_upto_region 7 with (fail)
      go_cut [4, 5] from 36 to 45 (fun s4 s5 wc => ∃ (cb : Nat) (one : Value), s4 = .pointer (some ⟨cb, 0, none⟩) ∧ wc.cell? ⟨cb, 0, none⟩ = some one ∧ OwnI wc W0.heap.size one (iota n) ∧ OwnI wc W0.heap.size s5 (hf n) ∧ Below W0.heap.size W0 wc ∧ W0.heap.size ≤ cb ∧ cb < wc.heap.size)
      case first =>
        refine wp_region_held_drew (S := fun w => w.cell? ⟨bx, 0, none⟩ = some (.int .i64 n)) (by kernel_rfl) (c0) (fun hHeld => ?_)
        refine' wpAnyH_take (i := 0) (oi := ?oiz41) (v := ?vz41) ?haz41 (by kernel_rfl) ?hfz41 ?hrz41 ?hQz41 (Or.inl ⟨?hwz41, ?hyz41⟩) (by assumption) ?restz41
        case haz41 => (simp only [List.getElem?_toArray, List.getElem?_cons_zero]; exact rfl)
        case hQz41 => exact fun _ _ _ h => h
        case hfz41 => kernel_rfl
        case hrz41 => kernel_rfl
        case hwz41 => rfl
        case hyz41 => (intro w hSw; (try dsimp only at hSw); have e0 := hSw; go_simp; (try with_reducible rfl))
        try simp only [Act.put, List.setIfInBounds_toArray, List.set_cons_zero, List.set_cons_succ]
        refine' wpAnyH_take (i := 1) (oi := ?oiz42) (v := ?vz42) ?haz42 (by kernel_rfl) ?hfz42 ?hrz42 ?hQz42 (Or.inl ⟨?hwz42, ?hyz42⟩) (by assumption) ?restz42
        case haz42 => (simp only [List.getElem?_toArray, List.getElem?_cons_succ, List.getElem?_cons_zero]; exact rfl)
        case hQz42 => exact fun _ _ _ h => h
        case hfz42 => kernel_rfl
        case hrz42 => kernel_rfl
        case hwz42 => rfl
        case hyz42 => (intro w hSw; (try dsimp only at hSw); have e0 := hSw; go_simp; (try with_reducible rfl))
        try simp only [Act.put, List.setIfInBounds_toArray, List.set_cons_zero, List.set_cons_succ]
        refine' wpAnyH_take (i := 2) (oi := ?oiz43) (v := ?vz43) ?haz43 (by kernel_rfl) ?hfz43 ?hrz43 ?hQz43 (Or.inl ⟨?hwz43, ?hyz43⟩) (by assumption) ?restz43
        case haz43 => (simp only [List.getElem?_toArray, List.getElem?_cons_succ, List.getElem?_cons_zero]; exact rfl)
        case hQz43 => exact fun _ _ _ h => h
        case hfz43 => kernel_rfl
        case hrz43 => kernel_rfl
        case hwz43 => rfl
        case hyz43 => (intro w hSw; (try dsimp only at hSw); have e0 := hSw; go_simp; (try with_reducible rfl))
        try simp only [Act.put, List.setIfInBounds_toArray, List.set_cons_zero, List.set_cons_succ]
        refine' wpAnyH_take (i := 3) (oi := ?oiz44) (v := ?vz44) ?haz44 (by kernel_rfl) ?hfz44 ?hrz44 ?hQz44 (Or.inl ⟨?hwz44, ?hyz44⟩) (by assumption) ?restz44
        case haz44 => (simp only [List.getElem?_toArray, List.getElem?_cons_succ, List.getElem?_cons_zero]; exact rfl)
        case hQz44 => exact fun _ _ _ h => h
        case hfz44 => kernel_rfl
        case hrz44 => kernel_rfl
        case hwz44 => rfl
        case hyz44 => (intro w hSw; (try dsimp only at hSw); have e0 := hSw; go_simp; (try with_reducible rfl))
        try simp only [Act.put, List.setIfInBounds_toArray, List.set_cons_zero, List.set_cons_succ]
        refine' wpAnyH_take (i := 5) (oi := ?oiz45) (v := ?vz45) ?haz45 (by kernel_rfl) ?hfz45 ?hrz45 ?hQz45 (Or.inl ⟨?hwz45, ?hyz45⟩) (by assumption) ?restz45
        case haz45 => (simp only [List.getElem?_toArray, List.getElem?_cons_succ, List.getElem?_cons_zero]; exact rfl)
        case hQz45 => exact fun _ _ _ h => h
        case hfz45 => kernel_rfl
        case hrz45 => kernel_rfl
        case hwz45 => rfl
        case hyz45 => (intro w hSw; (try dsimp only at hSw); have e0 := hSw; go_simp; (try with_reducible rfl))
        try simp only [Act.put, List.setIfInBounds_toArray, List.set_cons_zero, List.set_cons_succ]
        refine' wpAnyH_take (i := 6) (oi := ?oiz46) (v := ?vz46) ?haz46 (by kernel_rfl) ?hfz46 ?hrz46 ?hQz46 (Or.inl ⟨?hwz46, ?hyz46⟩) (by assumption) ?restz46
        case haz46 => (simp only [List.getElem?_toArray, List.getElem?_cons_succ, List.getElem?_cons_zero]; exact rfl)
        case hQz46 => exact fun _ _ _ h => h
        case hfz46 => kernel_rfl
        case hrz46 => kernel_rfl
        case hwz46 => rfl
        case hyz46 => (intro w hSw; (try dsimp only at hSw); have e0 := hSw; go_simp; (try with_reducible rfl))
        try simp only [Act.put, List.setIfInBounds_toArray, List.set_cons_zero, List.set_cons_succ]
        refine' wpAnyH_take (i := 7) (oi := ?oiz47) (v := ?vz47) ?haz47 (by kernel_rfl) ?hfz47 ?hrz47 ?hQz47 (Or.inl ⟨?hwz47, ?hyz47⟩) (by assumption) ?restz47
        case haz47 => (simp only [List.getElem?_toArray, List.getElem?_cons_succ, List.getElem?_cons_zero]; exact rfl)
        case hQz47 => exact fun _ _ _ h => h
        case hfz47 => kernel_rfl
        case hrz47 => kernel_rfl
        case hwz47 => rfl
        case hyz47 => (intro w hSw; (try dsimp only at hSw); have e0 := hSw; go_simp; (try with_reducible rfl))
        try simp only [Act.put, List.setIfInBounds_toArray, List.set_cons_zero, List.set_cons_succ]
        refine' wpAnyH_take (i := 8) (oi := ?oiz48) (v := ?vz48) ?haz48 (by kernel_rfl) ?hfz48 ?hrz48 ?hQz48 (Or.inl ⟨?hwz48, ?hyz48⟩) (by assumption) ?restz48
        case haz48 => (simp only [List.getElem?_toArray, List.getElem?_cons_succ, List.getElem?_cons_zero]; exact rfl)
        case hQz48 => exact fun _ _ _ h => h
        case hfz48 => kernel_rfl
        case hrz48 => kernel_rfl
        case hwz48 => rfl
        case hyz48 => (intro w hSw; (try dsimp only at hSw); have e0 := hSw; go_simp; (try with_reducible rfl))
        try simp only [Act.put, List.setIfInBounds_toArray, List.set_cons_zero, List.set_cons_succ]
        have BEL : Below W0.heap.size W0 W0.drew := (Below.refl _ _).drew
        obtain ⟨y0, hy0⟩ : ∃ y0, y0 = W0.drew := ⟨_, rfl⟩
        rw [← hy0] at hHeld BEL ⊢
        clear hy0
        refine wpAnyH_ready (rs := [4, 10]) (by kernel_rfl) (by simp) ?_
        refine' AllReadyH.cons (o := ?oiz61) ?haz61 (fun K hK => ?stepz61) (AllReadyH.cons (o := ?oiz62) ?haz62 (fun K hK => ?stepz62) AllReadyH.nil)
        case haz61 => (simp only [List.getElem?_toArray, List.getElem?_cons_succ, List.getElem?_cons_zero]; exact rfl)
        case haz62 => (simp only [List.getElem?_toArray, List.getElem?_cons_succ, List.getElem?_cons_zero]; exact rfl)
        case stepz61 =>
          go_simp
          refine (HID.out _).mono ?_
          rintro e y1 ⟨one, rfl, ho, sb⟩
          have sone := ho.isSl
          have ONE := ho.low BEL.size
          have BEL := Below.chain BEL sb
          try (have CB := CB.below sb)
          clear ho sb
          refine hK.out _ _ (HC0.out _ BEL) (fun hHeld => ?_)
          clear hK K
          try simp only [Act.put, List.setIfInBounds_toArray, List.set_cons_zero, List.set_cons_succ]
          refine wpAnyH_ready (rs := [9, 10]) (by kernel_rfl) (by simp) ?_
          refine' AllReadyH.cons (o := ?oiz55) ?haz55 (fun K hK => ?stepz55) (AllReadyH.cons (o := ?oiz56) ?haz56 (fun K hK => ?stepz56) AllReadyH.nil)
          case haz55 => (simp only [List.getElem?_toArray, List.getElem?_cons_succ, List.getElem?_cons_zero]; exact rfl)
          case haz56 => (simp only [List.getElem?_toArray, List.getElem?_cons_succ, List.getElem?_cons_zero]; exact rfl)
          case stepz55 =>
            go_simp
            refine (HHF.out _).mono ?_
            rintro e y2 ⟨twist, rfl, ho, sb⟩
            have stwist := ho.isSl
            have TW := ho.low BEL.size
            have BEL := Below.chain BEL sb
            try (have CB := CB.below sb)
            have ONE := ONE.below sb
            clear ho sb
            refine hK.out _ _ (HC0.out _ BEL) (fun hHeld => ?_)
            clear hK K
            try simp only [Act.put, List.setIfInBounds_toArray, List.set_cons_zero, List.set_cons_succ]
            refine wpAnyH_ready (rs := [10]) (by kernel_rfl) (by simp) ?_
            refine' AllReadyH.cons (o := ?oiz51) ?haz51 (fun K hK => ?stepz51) AllReadyH.nil
            case haz51 => (simp only [List.getElem?_toArray, List.getElem?_cons_succ, List.getElem?_cons_zero]; exact rfl)
            go_simp
            obtain ⟨y3, hy3⟩ : ∃ y, y = World.alloc y2 (.cells #[.slice none 0 0] 22) := ⟨_, rfl⟩
            rw [← hy3]
            have sb : Below y2.heap.size y2 y3 := by rw [hy3]; exact (Below.refl _ _).alloc (Nat.le_refl _) _
            have hcb : W0.heap.size ≤ y2.heap.size := BEL.size
            have BEL := Below.chain BEL sb
            try (have ONE := ONE.below sb)
            try (have TW := TW.below sb)
            have CB : One y3 y2.heap.size (.slice none 0 0) := by rw [hy3]; exact one_new _ _
            have CBX : ∃ b, b = y2.heap.size := ⟨_, rfl⟩
            clear sb hy3
            refine hK.out _ _ (HC0.out _ BEL) (fun hHeld => ?_)
            clear hK K
            try simp only [Act.put, List.setIfInBounds_toArray, List.set_cons_zero, List.set_cons_succ]
            refine wpAnyH_ready (rs := [11]) (by kernel_rfl) (by simp) ?_
            refine' AllReadyH.cons (o := ?oiz50) ?haz50 (fun K hK => ?stepz50) AllReadyH.nil
            case haz50 => (simp only [List.getElem?_toArray, List.getElem?_cons_succ, List.getElem?_cons_zero]; exact rfl)
            have ce := CB.cell
            have cf := CB.free
            go_simp
            have hne := one_apart CB ONE
            have hne2 := one_apart CB TW
            have ONE := ONE.setOther hne one
            have TW := TW.setOther hne2 one
            have BEL := BEL.setCell (p := ⟨_, 0, none⟩) hcb one
            have CB := CB.set one
            clear ce cf hne hne2
            refine hK.out _ _ (HC0.out _ BEL) (fun hHeld => ?_)
            clear hK K
            try simp only [Act.put, List.setIfInBounds_toArray, List.set_cons_zero, List.set_cons_succ]
            refine' wpAnyH_take (i := 12) (oi := ?oiz49) (v := ?vz49) ?haz49 (by kernel_rfl) ?hfz49 ?hrz49 ?hQz49 (Or.inl ⟨?hwz49, ?hyz49⟩) (by assumption) ?restz49
            case haz49 => (simp only [List.getElem?_toArray, List.getElem?_cons_succ, List.getElem?_cons_zero]; exact rfl)
            case hQz49 => exact fun _ _ _ h => h
            case hfz49 => kernel_rfl
            case hrz49 => kernel_rfl
            case hwz49 => rfl
            case hyz49 => (intro w hSw; (try dsimp only at hSw); have e0 := hSw; go_simp; (try with_reducible rfl))
            try simp only [Act.put, List.setIfInBounds_toArray, List.set_cons_zero, List.set_cons_succ]
            refine wpAnyH_done (by kernel_rfl) ?_ _
            go_wp2_with fail
            go_meet
            exact ⟨_, one, rfl, CB.cell, ONE, TW, BEL, hcb, CB.lt⟩
          case stepz56 =>
            go_simp
            obtain ⟨y4, hy4⟩ : ∃ y, y = World.alloc y1 (.cells #[.slice none 0 0] 22) := ⟨_, rfl⟩
            rw [← hy4]
            have sb : Below y1.heap.size y1 y4 := by rw [hy4]; exact (Below.refl _ _).alloc (Nat.le_refl _) _
            have hcb : W0.heap.size ≤ y1.heap.size := BEL.size
            have BEL := Below.chain BEL sb
            try (have ONE := ONE.below sb)
            try (have TW := TW.below sb)
            have CB : One y4 y1.heap.size (.slice none 0 0) := by rw [hy4]; exact one_new _ _
            have CBX : ∃ b, b = y1.heap.size := ⟨_, rfl⟩
            clear sb hy4
            refine hK.out _ _ (HC0.out _ BEL) (fun hHeld => ?_)
            clear hK K
            try simp only [Act.put, List.setIfInBounds_toArray, List.set_cons_zero, List.set_cons_succ]
            refine wpAnyH_ready (rs := [9]) (by kernel_rfl) (by simp) ?_
            refine' AllReadyH.cons (o := ?oiz54) ?haz54 (fun K hK => ?stepz54) AllReadyH.nil
            case haz54 => (simp only [List.getElem?_toArray, List.getElem?_cons_succ, List.getElem?_cons_zero]; exact rfl)
            go_simp
            refine (HHF.out _).mono ?_
            rintro e y5 ⟨twist, rfl, ho, sb⟩
            have stwist := ho.isSl
            have TW := ho.low BEL.size
            have BEL := Below.chain BEL sb
            try (have CB := CB.below sb)
            have ONE := ONE.below sb
            clear ho sb
            refine hK.out _ _ (HC0.out _ BEL) (fun hHeld => ?_)
            clear hK K
            try simp only [Act.put, List.setIfInBounds_toArray, List.set_cons_zero, List.set_cons_succ]
            refine wpAnyH_ready (rs := [11]) (by kernel_rfl) (by simp) ?_
            refine' AllReadyH.cons (o := ?oiz53) ?haz53 (fun K hK => ?stepz53) AllReadyH.nil
            case haz53 => (simp only [List.getElem?_toArray, List.getElem?_cons_succ, List.getElem?_cons_zero]; exact rfl)
            have ce := CB.cell
            have cf := CB.free
            go_simp
            have hne := one_apart CB ONE
            have hne2 := one_apart CB TW
            have ONE := ONE.setOther hne one
            have TW := TW.setOther hne2 one
            have BEL := BEL.setCell (p := ⟨_, 0, none⟩) hcb one
            have CB := CB.set one
            clear ce cf hne hne2
            refine hK.out _ _ (HC0.out _ BEL) (fun hHeld => ?_)
            clear hK K
            try simp only [Act.put, List.setIfInBounds_toArray, List.set_cons_zero, List.set_cons_succ]
            refine' wpAnyH_take (i := 12) (oi := ?oiz52) (v := ?vz52) ?haz52 (by kernel_rfl) ?hfz52 ?hrz52 ?hQz52 (Or.inl ⟨?hwz52, ?hyz52⟩) (by assumption) ?restz52
            case haz52 => (simp only [List.getElem?_toArray, List.getElem?_cons_succ, List.getElem?_cons_zero]; exact rfl)
            case hQz52 => exact fun _ _ _ h => h
            case hfz52 => kernel_rfl
            case hrz52 => kernel_rfl
            case hwz52 => rfl
            case hyz52 => (intro w hSw; (try dsimp only at hSw); have e0 := hSw; go_simp; (try with_reducible rfl))
            try simp only [Act.put, List.setIfInBounds_toArray, List.set_cons_zero, List.set_cons_succ]
            refine wpAnyH_done (by kernel_rfl) ?_ _
            go_wp2_with fail
            go_meet
            exact ⟨_, one, rfl, CB.cell, ONE, TW, BEL, hcb, CB.lt⟩
        case stepz62 =>
          go_simp
          obtain ⟨y6, hy6⟩ : ∃ y, y = World.alloc y0 (.cells #[.slice none 0 0] 22) := ⟨_, rfl⟩
          rw [← hy6]
          have sb : Below y0.heap.size y0 y6 := by rw [hy6]; exact (Below.refl _ _).alloc (Nat.le_refl _) _
          have hcb : W0.heap.size ≤ y0.heap.size := BEL.size
          have BEL := Below.chain BEL sb
          try (have ONE := ONE.below sb)
          try (have TW := TW.below sb)
          have CB : One y6 y0.heap.size (.slice none 0 0) := by rw [hy6]; exact one_new _ _
          have CBX : ∃ b, b = y0.heap.size := ⟨_, rfl⟩
          clear sb hy6
          refine hK.out _ _ (HC0.out _ BEL) (fun hHeld => ?_)
          clear hK K
          try simp only [Act.put, List.setIfInBounds_toArray, List.set_cons_zero, List.set_cons_succ]
          refine wpAnyH_ready (rs := [4]) (by kernel_rfl) (by simp) ?_
          refine' AllReadyH.cons (o := ?oiz60) ?haz60 (fun K hK => ?stepz60) AllReadyH.nil
          case haz60 => (simp only [List.getElem?_toArray, List.getElem?_cons_succ, List.getElem?_cons_zero]; exact rfl)
          go_simp
          refine (HID.out _).mono ?_
          rintro e y7 ⟨one, rfl, ho, sb⟩
          have sone := ho.isSl
          have ONE := ho.low BEL.size
          have BEL := Below.chain BEL sb
          try (have CB := CB.below sb)
          clear ho sb
          refine hK.out _ _ (HC0.out _ BEL) (fun hHeld => ?_)
          clear hK K
          try simp only [Act.put, List.setIfInBounds_toArray, List.set_cons_zero, List.set_cons_succ]
          refine wpAnyH_ready (rs := [9]) (by kernel_rfl) (by simp) ?_
          refine' AllReadyH.cons (o := ?oiz59) ?haz59 (fun K hK => ?stepz59) AllReadyH.nil
          case haz59 => (simp only [List.getElem?_toArray, List.getElem?_cons_succ, List.getElem?_cons_zero]; exact rfl)
          go_simp
          refine (HHF.out _).mono ?_
          rintro e y8 ⟨twist, rfl, ho, sb⟩
          have stwist := ho.isSl
          have TW := ho.low BEL.size
          have BEL := Below.chain BEL sb
          try (have CB := CB.below sb)
          have ONE := ONE.below sb
          clear ho sb
          refine hK.out _ _ (HC0.out _ BEL) (fun hHeld => ?_)
          clear hK K
          try simp only [Act.put, List.setIfInBounds_toArray, List.set_cons_zero, List.set_cons_succ]
          refine wpAnyH_ready (rs := [11]) (by kernel_rfl) (by simp) ?_
          refine' AllReadyH.cons (o := ?oiz58) ?haz58 (fun K hK => ?stepz58) AllReadyH.nil
          case haz58 => (simp only [List.getElem?_toArray, List.getElem?_cons_succ, List.getElem?_cons_zero]; exact rfl)
          have ce := CB.cell
          have cf := CB.free
          go_simp
          have hne := one_apart CB ONE
          have hne2 := one_apart CB TW
          have ONE := ONE.setOther hne one
          have TW := TW.setOther hne2 one
          have BEL := BEL.setCell (p := ⟨_, 0, none⟩) hcb one
          have CB := CB.set one
          clear ce cf hne hne2
          refine hK.out _ _ (HC0.out _ BEL) (fun hHeld => ?_)
          clear hK K
          try simp only [Act.put, List.setIfInBounds_toArray, List.set_cons_zero, List.set_cons_succ]
          refine' wpAnyH_take (i := 12) (oi := ?oiz57) (v := ?vz57) ?haz57 (by kernel_rfl) ?hfz57 ?hrz57 ?hQz57 (Or.inl ⟨?hwz57, ?hyz57⟩) (by assumption) ?restz57
          case haz57 => (simp only [List.getElem?_toArray, List.getElem?_cons_succ, List.getElem?_cons_zero]; exact rfl)
          case hQz57 => exact fun _ _ _ h => h
          case hfz57 => kernel_rfl
          case hrz57 => kernel_rfl
          case hwz57 => rfl
          case hyz57 => (intro w hSw; (try dsimp only at hSw); have e0 := hSw; go_simp; (try with_reducible rfl))
          try simp only [Act.put, List.setIfInBounds_toArray, List.set_cons_zero, List.set_cons_succ]
          refine wpAnyH_done (by kernel_rfl) ?_ _
          go_wp2_with fail
          go_meet
          exact ⟨_, one, rfl, CB.cell, ONE, TW, BEL, hcb, CB.lt⟩
      case rest =>
        obtain ⟨cb, one, rfl, hc, ho, htw, hb, hcb, hcl⟩ := hcut
        have hf3 := HF.out.below hb
        have hlt := HF.out.lt
        have so := ho.isSl; have st := htw.isSl
        obtain ⟨twist, htwist⟩ : ∃ t, u5 = t := ⟨_, rfl⟩
        rw [htwist] at htw st ⊢
        clear htwist c2 c0
        have HBC := Lib.hid (Below.trans HB.out (hb.mono (by have := HB.out.size; omega)))
        have HF3 := Lib.hid hf3; have HC3 := Lib.hid hc; have HO3 := Lib.hid ho; have HT3 := Lib.hid htw; have HCB := Lib.hid hcb; have HLT3 := Lib.hid hlt
        clear hf3 hc ho htw hb hcb hlt
        go_wp2_with fail
        go_loopw [] (fun wx => ∃ (k : Nat) (G2 : List (List Int)) (v2 : Value) (vs2 : List Value), G = List.replicate k (hf n) ++ G2 ∧ Frm wx B bx n (p + k) v2 vs2 G2 ∧ wx.cell? ⟨cb, 0, none⟩ = some one ∧ OwnI wx W0.heap.size one (iota n) ∧ OwnI wx W0.heap.size twist (hf n) ∧ Below B w wx ∧ cb < wx.heap.size) (fun wx => vlen ((wx.cell? ⟨bx, 2, none⟩).getD undef))
        case atStart => exact ⟨0, G, v, vs, by simp, by simpa using HF3.out, HC3.out, HO3.out, HT3.out, HBC.out, hcl⟩
        case round =>
          obtain ⟨k, G2, v2, vs2, hG, hf4, hc4, ho4, ht4, hb4, hcl4⟩ := hrel
          have d2 := hf4.c2
          have sv2 := hf4.rows.own.isSl
          have lv2 := hf4.rows.own.len
          rw [hf4.rows.len] at lv2
          have hkL : k + G2.length = L := by have h1 := congrArg List.length hG; rw [HR.out.len, HL.out] at h1; simp at h1; omega
          cases G2 with
          | nil =>
            have HG4 := Lib.hid hG; have HF4 := Lib.hid hf4; have HC4 := Lib.hid hc4; have HO4 := Lib.hid ho4; have HT4 := Lib.hid ht4; have HB4 := Lib.hid hb4
            clear hG hf4 hc4 ho4 ht4 hb4
            simp only [List.length_nil] at lv2
            go_wp2_with fail
            have HFE := HF4; have HCE := HC4; have HOE := HO4; have HBW := HB4; have hclE := hcl4
            obtain ⟨U, m, hGU, hU, hst⟩ := strip_tight h2 (by omega) p (by rw [← HG4.out]; exact HGG.out) (by rw [← HG4.out]; exact HTG.out) (fun a T e => by cases e)
            rw [← HG4.out] at hst
            have hrg := HFE.out.rows
            have hlenG := hkL
            rw [hGU] at hrg hlenG
            refine (delRows_calls v2 one vs2 U n m cb _ B hrg HCE.out hclE HOE.out.ints (by omega) hU).mono ?_
            rintro e wd ⟨u, us, rfl, hru, hcd⟩
            have hbx := (hcd.block bx HFE.out.lt (fun e => HFE.out.slNe e)).trans HFE.out.box
            have b2 : wd.cell? ⟨bx, 2, none⟩ = some v2 := by simp [World.cell?, hbx]
            have z2 : wd.frozen? ⟨bx, 2, none⟩ = false := by simp [World.frozen?, hbx]
            have hf8 := frm_put hbx HFE.out.ge hru
            have su := hru.own.isSl
            have hbd : Below B w (wd.setCell ⟨bx, 2, none⟩ u) := (HBW.out.trans (hcd.below (by have := HFE.out.ge; have := HFE.out.lt; omega) (fun j hj => (HFE.out.rows.own.lt j hj).1))).setCell (p := ⟨bx, 2, none⟩) HFE.out.ge u
            have HF8 := Lib.hid hf8; have HBD := Lib.hid hbd; have HST := Lib.hid hst
            clear hf8 hbd hst hbx hru hcd hrg hGU hU hlenG
            go_wp2_with fail
            go_end0
            refine ⟨G, u, us, ⟨_, rfl⟩, HR.out, HTG.out, ?_, HBD.out⟩
            rw [HST.out]
            exact HF8.out
          | cons xs G3 =>
            have hvl := hf4.rows.len
            obtain ⟨q0, vs3, rfl⟩ : ∃ q vs3, vs2 = q :: vs3 := by
              cases vs2 with
              | nil => simp at hvl
              | cons q vs3 => exact ⟨q, vs3, rfl⟩
            have k0 := hf4.rows.own.cell (j := 0) (by simp)
            simp only [List.getElem_cons_zero] at k0
            have r0 := (hf4.rows.row 0 (by simp)).ints
            have r0' : Ints wr q0 xs := r0
            have sq := r0'.isSl
            have HEQ := Lib.hid (fun W (hW : Below wr.heap.size wr W) => equal_calls q0 twist xs (hf n) W (r0'.below hW) (ht4.ints.below hW))
            have HKE := Lib.hid (fun W (hW : Below wr.heap.size wr.drew W) => (⟨((hf4.below ((Below.refl _ _).drew.trans hW)).c2), ((hf4.below ((Below.refl _ _).drew.trans hW)).rows.own.cell (j := 0) (by simp))⟩ : W.cell? ⟨bx, 2, none⟩ = some v2 ∧ W.cell? (vat v2 0) = some q0))
            simp only [List.length_cons] at lv2
            have HG4 := Lib.hid hG; have HF4 := Lib.hid hf4; have HC4 := Lib.hid hc4; have HO4 := Lib.hid ho4; have HT4 := Lib.hid ht4; have HB4 := Lib.hid hb4
            clear hG hf4 hc4 ho4 ht4 hb4 r0 r0' hvl
            by_cases hx : xs = hf n
            · have hd : decide (xs = hf n) = true := by simpa using hx
              rw [hd] at HEQ
              clear hd
              go_wp2_with fail
              refine (HEQ.out _ (Below.refl _ _)).mono ?_
              rintro e we ⟨rfl, hbe⟩
              have hf5 := HF4.out.below hbe
              have g1 := hf5.c1
              have g2 := hf5.c2
              have z1 := hf5.f0 1
              have z2 := hf5.f0 2
              have wpk : IntKind.i64.wrap (p + (k : Int) + 1) = p + (k : Int) + 1 := IntWalk.i64_in _ ⟨by omega, by omega⟩
              have hf6 := hf5.putPower (p + (k : Int) + 1)
              have y2 := hf6.c2
              have x2 := hf6.f0 2
              have hf7 := hf6.putRows hf6.rows.tail
              have stl := hf6.rows.tail.own.isSl
              have HF7 := Lib.hid hf7; have HBE := Lib.hid hbe; have HF5 := Lib.hid hf5
              clear hf5 hf6 hf7 hbe
              obtain ⟨c, hcap⟩ : ∃ c, vcap v2 = c := ⟨_, rfl⟩
              rw [lv2, hcap] at stl HF7
              go_wp2_with fail
              go_roundw
              case rel =>
                have hbb : bx < W0.heap.size := HLT3.out
                have hbc : bx ≠ cb := by have := HCB.out; omega
                refine ⟨k + 1, G3, vcut v2 1 (G3.length + 1) c 1, vs3, ?_, ?_, ?_, ?_, ?_, ?_, ?_⟩
                · rw [HG4.out, hx, List.replicate_succ', List.append_assoc]; rfl
                · rw [show p + ((k + 1 : Nat) : Int) = p + (k : Int) + 1 by omega]; exact HF7.out
                · rw [cell_far _ hbc, cell_far _ hbc]; exact (HBE.out.cell (p := ⟨cb, 0, none⟩) hcl4).trans HC4.out
                · exact ((HO4.out.below HBE.out).setOther (p := ⟨bx, 1, none⟩) (fun j hj e => by have h1 := (HO4.out.lt j hj).1; have h3 : bx = j := e; omega) _).setOther (p := ⟨bx, 2, none⟩) (fun j hj e => by have h1 := (HO4.out.lt j hj).1; have h3 : bx = j := e; omega) _
                · exact ((HT4.out.below HBE.out).setOther (p := ⟨bx, 1, none⟩) (fun j hj e => by have h1 := (HT4.out.lt j hj).1; have h3 : bx = j := e; omega) _).setOther (p := ⟨bx, 2, none⟩) (fun j hj e => by have h1 := (HT4.out.lt j hj).1; have h3 : bx = j := e; omega) _
                · exact (((HB4.out.trans (HBE.out.mono (by have := HF4.out.ge; have := HF4.out.lt; omega)))).setCell (p := ⟨bx, 1, none⟩) HF4.out.ge _).setCell (p := ⟨bx, 2, none⟩) HF4.out.ge _
                · have := HBE.out.size; simp; omega
              case measure =>
                have e1 := HF7.out.c2
                have e2 := HF4.out.c2
                rw [e1, e2]
                simp [vlen_cut, lv2]
            · have hd : decide (xs = hf n) = false := by simpa using hx
              rw [hd] at HEQ
              clear hd
              go_wp2_with fail
              refine (HEQ.out _ (Below.refl _ _)).mono ?_
              rintro e we ⟨rfl, hbe⟩
              have HBE := Lib.hid hbe
              have g2 := (HF4.out.below hbe).c2
              clear hbe
              go_wp2_with fail
              have HFE := Lib.hid (HF4.out.below HBE.out); have HCE := Lib.hid ((HBE.out.cell (p := ⟨cb, 0, none⟩) hcl4).trans HC4.out); have HOE := Lib.hid (HO4.out.below HBE.out); have HBW := Lib.hid ((HB4.out.trans (HBE.out.mono (by have := HF4.out.ge; have := HF4.out.lt; omega))))
              have hclE : cb < we.heap.size := by have := HBE.out.size; omega
              obtain ⟨U, m, hGU, hU, hst⟩ := strip_tight h2 (by omega) p (by rw [← HG4.out]; exact HGG.out) (by rw [← HG4.out]; exact HTG.out) (fun a T e => by cases e; exact hx)
              rw [← HG4.out] at hst
              have hrg := HFE.out.rows
              have hlenG := hkL
              rw [hGU] at hrg hlenG
              refine (delRows_calls v2 one (q0 :: vs3) U n m cb _ B hrg HCE.out hclE HOE.out.ints (by omega) hU).mono ?_
              rintro e wd ⟨u, us, rfl, hru, hcd⟩
              have hbx := (hcd.block bx HFE.out.lt (fun e => HFE.out.slNe e)).trans HFE.out.box
              have b2 : wd.cell? ⟨bx, 2, none⟩ = some v2 := by simp [World.cell?, hbx]
              have z2 : wd.frozen? ⟨bx, 2, none⟩ = false := by simp [World.frozen?, hbx]
              have hf8 := frm_put hbx HFE.out.ge hru
              have su := hru.own.isSl
              have hbd : Below B w (wd.setCell ⟨bx, 2, none⟩ u) := (HBW.out.trans (hcd.below (by have := HFE.out.ge; have := HFE.out.lt; omega) (fun j hj => (HFE.out.rows.own.lt j hj).1))).setCell (p := ⟨bx, 2, none⟩) HFE.out.ge u
              have HF8 := Lib.hid hf8; have HBD := Lib.hid hbd; have HST := Lib.hid hst
              clear hf8 hbd hst hbx hru hcd hrg hGU hU hlenG
              go_wp2_with fail
              go_end0
              refine ⟨G, u, us, ⟨_, rfl⟩, HR.out, HTG.out, ?_, HBD.out⟩
              rw [HST.out]
              exact HF8.out

end Go.Proofs.Ytnmklkjlcpgjmaa


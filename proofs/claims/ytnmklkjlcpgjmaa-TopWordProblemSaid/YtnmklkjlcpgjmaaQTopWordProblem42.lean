/- garside's add and formOf walked. -/
import Derived.Test.YtnmklkjlcpgjmaaQTopWordProblem0
import Derived.Test.YtnmklkjlcpgjmaaQTopWordProblem1
import Derived.Test.YtnmklkjlcpgjmaaQTopWordProblem3
import Derived.Test.YtnmklkjlcpgjmaaQTopWordProblem5
import Derived.Test.YtnmklkjlcpgjmaaQTopWordProblem6
import Derived.Test.YtnmklkjlcpgjmaaQTopWordProblem7
import Derived.Test.YtnmklkjlcpgjmaaQTopWordProblem8
import Derived.Test.YtnmklkjlcpgjmaaQTopWordProblem9
import Derived.Test.YtnmklkjlcpgjmaaQTopWordProblem10
import Derived.Test.YtnmklkjlcpgjmaaQTopWordProblem11
import Derived.Test.YtnmklkjlcpgjmaaQTopWordProblem12
import Derived.Test.YtnmklkjlcpgjmaaQTopWordProblem13
import Derived.Test.YtnmklkjlcpgjmaaQTopWordProblem15
import Derived.Test.YtnmklkjlcpgjmaaQTopWordProblem16
import Derived.Test.YtnmklkjlcpgjmaaQTopWordProblem17
import Derived.Test.YtnmklkjlcpgjmaaQTopWordProblem18
import Derived.Test.YtnmklkjlcpgjmaaQTopWordProblem19
import Derived.Test.YtnmklkjlcpgjmaaQTopWordProblem20
import Derived.Test.YtnmklkjlcpgjmaaQTopWordProblem29
import Derived.Test.YtnmklkjlcpgjmaaQTopWordProblem31
import Derived.Test.YtnmklkjlcpgjmaaQTopWordProblem32
import Derived.Test.YtnmklkjlcpgjmaaQTopWordProblem34
import Derived.Test.YtnmklkjlcpgjmaaQTopWordProblem35
import Derived.Test.YtnmklkjlcpgjmaaQTopWordProblem36
import Derived.Test.YtnmklkjlcpgjmaaQTopWordProblem37
import Derived.Test.YtnmklkjlcpgjmaaQTopWordProblem38
import Derived.Test.YtnmklkjlcpgjmaaQTopWordProblem39
import Derived.Test.YtnmklkjlcpgjmaaQTopWordProblem40
import Derived.Test.YtnmklkjlcpgjmaaQTopWordProblem41
import Derived.Lib.AppendZeros
namespace Go.Proofs.Ytnmklkjlcpgjmaa
open Go.RowKit Go.Sl

theorem RG.push {w : World} {B : Nat} {v q : Value} {vs : List Value} {F : List (List Int)} {ys : List Int} (h : RG w B v vs F) (hy : OwnI w B q ys) (l0 : 0 < ys.length) (hap : Go.Sl.row v ≠ some (vblk q)) (hea : ∀ j, j < F.length → vblk (nthv vs j) ≠ vblk q) (hB : B ≤ w.heap.size) (hl : F.length ≤ 1000000) :
    ∃ v' w', (Builtin.append_ #[41, 41] 41 #[v, .slice (some ⟨w.heap.size, 0, none⟩) 1 1]).run Try.prog (w.alloc (.cells #[q] 22)) = .ok v' w' ∧
      RG w' B v' (vs ++ [q]) (F ++ [ys]) ∧ w.grownBy w' (Go.Sl.row v) ∧ IsSl v' := by
  have hvl := h.len
  obtain ⟨v', w', hr, ho, hg, _, hs⟩ := run_pushG (w := w) 41 h.own hy.isSl hB (by omega)
  have hrr : Go.Sl.row q = some (vblk q) := row_some (by have := hy.ints.cap; omega)
  have hnv : ∀ i, i < F.length → nthv (vs ++ [q]) i = nthv vs i ∧ nthr (F ++ [ys]) i = nthr F i := by
    intro i hi
    simp [nthv, nthr, List.getElem?_append, hvl, hi]
  have hlast : nthv (vs ++ [q]) F.length = q ∧ nthr (F ++ [ys]) F.length = ys := by
    simp [nthv, nthr, hvl]
  refine ⟨v', w', hr, ⟨ho, by simp [hvl], fun i hi => ?_, fun i hi => ?_, fun i j hij hj => ?_⟩, hg, hs⟩
  · simp only [List.length_append, List.length_cons, List.length_nil] at hi
    rcases Nat.lt_or_ge i F.length with hlt | hge
    · rw [(hnv i hlt).1, (hnv i hlt).2]
      refine Go.Sl.Own.grown (h.row i hlt) hg fun k hk e => ?_
      rw [h.rowAt hlt] at hk
      exact h.apart hlt (by rw [e, hk])
    · obtain rfl : i = F.length := by omega
      rw [hlast.1, hlast.2]
      refine Go.Sl.Own.grown hy hg fun k hk e => ?_
      rw [hrr] at hk
      exact hap (by rw [e, hk])
  · simp only [List.length_append, List.length_cons, List.length_nil] at hi
    rcases Nat.lt_or_ge i F.length with hlt | hge
    · rw [(hnv i hlt).2]; exact h.pos i hlt
    · obtain rfl : i = F.length := by omega
      rw [hlast.2]; exact l0
  · simp only [List.length_append, List.length_cons, List.length_nil] at hj
    rcases Nat.lt_or_ge j F.length with hlt | hge
    · rw [(hnv i (by omega)).1, (hnv j hlt).1]; exact h.each i j hij hlt
    · obtain rfl : j = F.length := by omega
      rw [hlast.1, (hnv i (by omega)).1]; exact hea i (by omega)

theorem Frm.far {W : World} {B bx n : Nat} {q : Int} {v : Value} {vs : List Value} {F : List (List Int)} (h : Frm W B bx n q v vs F) {p : Addr} (hb : p.block ≠ bx) (hv : Go.Sl.row v ≠ some p.block) (hr : ∀ j, j < F.length → vblk (nthv vs j) ≠ p.block) (u : Value) : Frm (W.setCell p u) B bx n q v vs F :=
  ⟨(Below.heap_setCell W p u bx (fun e => hb e.symm)).trans h.box, ⟨h.rows.own.setOther (fun k hk e => hv (by rw [hk, e])) u, h.rows.len, fun i hi => (h.rows.row i hi).setOther (fun k hk e => by rw [h.rows.rowAt hi] at hk; exact hr i hi (by rw [e]; exact Option.some.inj hk)) u, h.rows.pos, h.rows.each⟩, h.ge⟩
theorem cn_bounds {n : Nat} {s c : St} (h : Cn n s c) : c.2.length ≤ s.2.length ∧ s.1 ≤ c.1 ∧ c.1 ≤ s.1 + s.2.length := by
  obtain ⟨_, T, r, _, rfl⟩ := h
  have h1 := r.len
  have h3 := List.length_filter_le (fun p => decide (p ≠ hf n ∧ p ≠ iota n)) T
  have h4 := List.count_le_length (a := hf n) (l := T)
  refine ⟨?_, ?_, ?_⟩ <;> simp only [strip] <;> omega

set_option maxRecDepth 100000 in
set_option maxHeartbeats 4000000 in
theorem gadd_calls (n : Nat) (p x : Int) (v : Value) (vs : List Value) (F : List (List Int)) (B bx : Nat) (w : World) (h : Frm w B bx n p v vs F) (g : Good n F) (h2 : 2 ≤ n) (h6 : n ≤ 6) (hl : F.length ≤ 400) (hp : -1000 ≤ p ∧ p ≤ 1000) (hx : Lt n x) (hB : B ≤ w.heap.size) :
    Calls Try.prog 35 #[.pointer (some ⟨bx, 0, none⟩), .int .i64 x] w fun e w' => ∃ c v' vs', (∃ u, e = .returned u) ∧ Cn n (mulS n (p, F) x) c ∧ Frm w' B bx n c.1 v' vs' c.2 ∧ Below B w w' := by
  obtain ⟨hx0, hxn⟩ := hx
  obtain ⟨m, hm⟩ : ∃ m : Nat, x.natAbs = m + 1 := ⟨x.natAbs - 1, by omega⟩
  have hm1 : m + 1 < n := by omega
  have HBI := Lib.hid (fun W => bindex_calls x W (by omega) (by omega))
  have hma : (x.natAbs : Int) = (m : Int) + 1 := by omega
  rw [hma] at HBI
  have c0 := h.c0
  have hmul : mulS n (p, F) x = if 0 < x then (p, F ++ [sgP n m]) else (p - 1, F.map (turnP n) ++ [dgP n m]) := by
    unfold mulS; rw [hm]; simp
  have w0 : IntKind.i64.wrap ((m : Int) + 1 - 1) = (m : Int) := by rw [show (m : Int) + 1 - 1 = m by omega]; exact IntWalk.i64_in _ ⟨by omega, by omega⟩
  have w0' : (m : Int) + 1 - 1 = (m : Int) := by omega
  have HMUL := Lib.hid hmul; have H := Lib.hid h; have HG := Lib.hid g
  clear h g hmul hma hm hxn
  go_enter Try.func35, Try.ntmps35
  go_wp2_with fail
  refine (HBI.out _).mono ?_
  rintro e w1 ⟨rfl, rfl⟩
  go_wp2_with fail
  refine (identity_calls n _ (by omega)).mono ?_
  rintro e w1 ⟨q, rfl, hq, hb1⟩
  have sq := hq.isSl
  have hf1 := H.out.below hb1
  have HQ := Lib.hid hq; have HB1 := Lib.hid hb1; have HF1 := Lib.hid hf1
  clear hq hb1 hf1 c0
  by_cases hneg : x < 0
  · have c1 := HF1.out.c1
    have z1 := HF1.out.f0 1
    have wp : IntKind.i64.wrap (p - 1) = p - 1 := IntWalk.i64_in _ ⟨by omega, by omega⟩
    have hf2 := HF1.out.putPower (p - 1)
    have HF2 := Lib.hid hf2
    clear hf2
    have HBp := Lib.hid ((HB1.out.mono hB).setCell (p := ⟨bx, 1, none⟩) H.out.ge (.int .i64 (p - 1)))
    go_wp2_with fail
    refine (turn_calls n (p - 1) v vs F B bx _ HF2.out HG.out h2 h6 (by omega) (by have := HBp.out.size; omega)).mono ?_
    rintro e w2 ⟨vs2, ⟨u, rfl⟩, hf3, hb3⟩
    have c0 := hf3.c0
    have HF3 := Lib.hid hf3; have HB3 := Lib.hid hb3
    clear hf3 hb3
    go_wp2_with fail
    refine (half_calls n _ (by omega)).mono ?_
    rintro e w3 ⟨q2, rfl, hq2, hb4⟩
    have sq2 := hq2.isSl
    have HQQ := Lib.hid hq2
    have HFF := Lib.hid (HF3.out.below hb4)
    have HBB := Lib.hid ((HBp.out.trans HB3.out).trans (hb4.mono (by have := HF3.out.ge; have := HF3.out.lt; omega)))
    have hqr2 : Go.Sl.row q2 = some (vblk q2) := row_some (by have := hq2.ints.cap; rw [hf_length] at this; omega)
    have hqx := (hq2.lt _ hqr2).1
    have HQB := Lib.hid (show B ≤ vblk q2 by have := HF3.out.ge; have := HF3.out.lt; omega)
    have HQW := Lib.hid (show B ≤ w2.heap.size by have := HF3.out.ge; have := HF3.out.lt; omega)
    have HNB := Lib.hid (show vblk q2 ≠ bx by have := HF3.out.lt; omega)
    have HNV := Lib.hid (show Go.Sl.row v ≠ some (vblk q2) from fun e => by have := (HF3.out.rows.own.lt _ e).2; omega)
    have HNR := Lib.hid (show ∀ j, j < (F.map (turnP n)).length → vblk (nthv vs2 j) ≠ vblk q2 from fun j hj e => by have := (HF3.out.rows.blk hj).2; omega)
    have HLF := Lib.hid (show (F.map (turnP n)).length ≤ 400 by simpa using hl)
    have HGF := Lib.hid (show Good n (F.map (turnP n)) from good_turn HG.out)
    clear hq2 hb4 hqr2 hqx c0 z1 c1
    go_wp2_with fail
    have HPB := Lib.hid (show Pn n (hf n) from pn_hf (by omega))
    obtain ⟨pa, hpa, epa, -⟩ := Go.Proofs.Ytnmklkjlcpgjmaa.hit HPB.out (x := m) (by omega)
    obtain ⟨pb, hpb, epb, -⟩ := Go.Proofs.Ytnmklkjlcpgjmaa.hit HPB.out (x := m + 1) hm1
    have epb' : nth (hf n) pb = (m : Int) + 1 := by rw [epb]; omega
    have ip := idxOf_at HPB.out hpa epa
    have iq := idxOf_at HPB.out hpb epb
    simp only [Int.natCast_add, Int.natCast_one] at iq
    have hset := swapV_set HPB.out hm1 hpa hpb epa epb'
    have HIP := Lib.hid ip; have HIQ := Lib.hid iq; have HSET := Lib.hid hset
    clear ip iq hset epa epb epb'
    refine (index_calls q2 (hf n) m _ HQQ.out.ints).mono ?_
    rintro e w3 ⟨rfl, rfl⟩
    rw [HIP.out]
    go_wp2_with fail
    refine (index_calls q2 (hf n) ((m : Int) + 1) _ HQQ.out.ints).mono ?_
    rintro e w3 ⟨rfl, rfl⟩
    rw [HIQ.out]
    have lq := HQQ.out.len
    rw [HPB.out.len] at lq
    have pl : pa < (hf n).length := by rw [HPB.out.len]; exact hpa
    have ql : pb < (hf n).length := by rw [HPB.out.len]; exact hpb
    have hpn : (pa : Int) < (n : Int) := by omega
    have hqn : (pb : Int) < (n : Int) := by omega
    have f3 := HQQ.out.frozen pl
    have c3 := HQQ.out.cell pl
    have o4 := HQQ.out.set pl ((m : Int) + 1)
    have f4 := o4.frozen (k := pb) (by rw [List.length_set]; exact ql)
    have c4 := o4.cell (k := pb) (by rw [List.length_set]; exact ql)
    have o5 := o4.set (k := pb) (by rw [List.length_set]; exact ql) m
    rw [HSET.out] at o5
    have hqr : Go.Sl.row q2 = some (vblk q2) := row_some (by have := HQQ.out.ints.cap; rw [HPB.out.len] at this; omega)
    have fr := (HFF.out.far (p := vat q2 pa) HNB.out HNV.out HNR.out (.int .i64 ((m : Int) + 1))).far (p := vat q2 pb) HNB.out HNV.out HNR.out (.int .i64 m)
    have bl := (HBB.out.setCell (p := vat q2 pa) HQB.out (.int .i64 ((m : Int) + 1))).setCell (p := vat q2 pb) HQB.out (.int .i64 m)
    have hsw : Pn n (swapV (hf n) m) := HPB.out.swapV hm1
    obtain ⟨v', w3, hrun, hrg, hgr, sv3⟩ := fr.rows.push (o5.low HQW.out) (by rw [hsw.len]; omega) HNV.out HNR.out (by have := fr.ge; have := fr.lt; omega) (by have := HLF.out; omega)
    have hbox : w3.heap[bx]? = _ := (hgr.block bx fr.lt (fun e => fr.slNe e.symm)).trans fr.box
    have b3 : (w3.cell? ⟨bx, 2, none⟩).isSome = true := by simp [World.cell?, hbox]
    have z3 : w3.frozen? ⟨bx, 2, none⟩ = false := by simp [World.frozen?, hbox]
    have d2 := fr.c2
    have s2 := fr.rows.own.isSl
    have hfin := frm_put hbox fr.ge hrg
    have hbl : Below B w (w3.setCell ⟨bx, 2, none⟩ v') := (Below_of_grown bl hgr (by have := fr.ge; have := fr.lt; omega) (fun b hb => (fr.rows.own.lt b hb).1)).setCell (p := ⟨bx, 2, none⟩) fr.ge v'
    simp only [World.size_setCell] at hrun
    have HRUN := Lib.hid hrun; have HFIN := Lib.hid hfin; have HBL := Lib.hid hbl; have HSW := Lib.hid hsw
    have lbx := fr.lt
    clear hrun hfin hbl hsw hrg hgr fr bl o4 o5 hqr pl ql hbox
    go_wp2_with (at_builtin; go_must (refine Lib.wpList_append_run _ rfl _ _ _ _ rfl v _ rfl rfl v' w3 HRUN.out ?_))
    have hgg : Good n (F.map (turnP n) ++ [swapV (hf n) m]) := HGF.out.app (good_one (by omega) HSW.out)
    refine (settle_calls n (p - 1) v' _ _ B bx _ HFIN.out hgg h2 h6 (by have := HLF.out; simp; omega) ⟨by omega, by omega⟩ (by have := HBL.out.size; omega)).mono ?_
    rintro e w4 ⟨T, v4, vs4, ⟨u, rfl⟩, hre, hti, hf4, hb4⟩
    have HRE := Lib.hid hre; have HTI := Lib.hid hti; have HF4 := Lib.hid hf4; have HB4 := Lib.hid hb4
    clear hre hti hf4 hb4
    go_wp2_with fail
    go_end0
    refine ⟨_, v4, vs4, ⟨_, rfl⟩, ?_, HF4.out, HBL.out.trans HB4.out⟩
    rw [HMUL.out]
    rw [if_neg (by omega)]
    exact ⟨hgg, T, HRE.out, HTI.out, rfl⟩
  · have HQQ := HQ; have HFF := HF1
    have HBB := Lib.hid (HB1.out.mono hB)
    have hqr2 : Go.Sl.row q = some (vblk q) := row_some (by have := HQ.out.ints.cap; simp only [iota, List.length_map, List.length_range] at this; omega)
    have hqx := (HQ.out.lt _ hqr2).1
    have HQB := Lib.hid (show B ≤ vblk q by omega)
    have HQW := Lib.hid hB
    have HNB := Lib.hid (show vblk q ≠ bx by have := H.out.lt; omega)
    have HNV := Lib.hid (show Go.Sl.row v ≠ some (vblk q) from fun e => by have := (H.out.rows.own.lt _ e).2; omega)
    have HNR := Lib.hid (show ∀ j, j < F.length → vblk (nthv vs j) ≠ vblk q from fun j hj e => by have := (H.out.rows.blk hj).2; omega)
    have HLF := Lib.hid hl
    have HGF := HG
    clear hqr2 hqx
    go_wp2_with fail
    have HPB := Lib.hid (show Pn n (iota n) from pn_iota (by omega))
    obtain ⟨pa, hpa, epa, -⟩ := Go.Proofs.Ytnmklkjlcpgjmaa.hit HPB.out (x := m) (by omega)
    obtain ⟨pb, hpb, epb, -⟩ := Go.Proofs.Ytnmklkjlcpgjmaa.hit HPB.out (x := m + 1) hm1
    have epb' : nth (iota n) pb = (m : Int) + 1 := by rw [epb]; omega
    have ip := idxOf_at HPB.out hpa epa
    have iq := idxOf_at HPB.out hpb epb
    simp only [Int.natCast_add, Int.natCast_one] at iq
    have hset := swapV_set HPB.out hm1 hpa hpb epa epb'
    have HIP := Lib.hid ip; have HIQ := Lib.hid iq; have HSET := Lib.hid hset
    clear ip iq hset epa epb epb'
    refine (index_calls q (iota n) m _ HQQ.out.ints).mono ?_
    rintro e w1 ⟨rfl, rfl⟩
    rw [HIP.out]
    go_wp2_with fail
    refine (index_calls q (iota n) ((m : Int) + 1) _ HQQ.out.ints).mono ?_
    rintro e w1 ⟨rfl, rfl⟩
    rw [HIQ.out]
    have lq := HQQ.out.len
    rw [HPB.out.len] at lq
    have pl : pa < (iota n).length := by rw [HPB.out.len]; exact hpa
    have ql : pb < (iota n).length := by rw [HPB.out.len]; exact hpb
    have hpn : (pa : Int) < (n : Int) := by omega
    have hqn : (pb : Int) < (n : Int) := by omega
    have f3 := HQQ.out.frozen pl
    have c3 := HQQ.out.cell pl
    have o4 := HQQ.out.set pl ((m : Int) + 1)
    have f4 := o4.frozen (k := pb) (by rw [List.length_set]; exact ql)
    have c4 := o4.cell (k := pb) (by rw [List.length_set]; exact ql)
    have o5 := o4.set (k := pb) (by rw [List.length_set]; exact ql) m
    rw [HSET.out] at o5
    have hqr : Go.Sl.row q = some (vblk q) := row_some (by have := HQQ.out.ints.cap; rw [HPB.out.len] at this; omega)
    have fr := (HFF.out.far (p := vat q pa) HNB.out HNV.out HNR.out (.int .i64 ((m : Int) + 1))).far (p := vat q pb) HNB.out HNV.out HNR.out (.int .i64 m)
    have bl := (HBB.out.setCell (p := vat q pa) HQB.out (.int .i64 ((m : Int) + 1))).setCell (p := vat q pb) HQB.out (.int .i64 m)
    have hsw : Pn n (swapV (iota n) m) := HPB.out.swapV hm1
    obtain ⟨v', w3, hrun, hrg, hgr, sv3⟩ := fr.rows.push (o5.low HQW.out) (by rw [hsw.len]; omega) HNV.out HNR.out (by have := fr.ge; have := fr.lt; omega) (by have := HLF.out; omega)
    have hbox : w3.heap[bx]? = _ := (hgr.block bx fr.lt (fun e => fr.slNe e.symm)).trans fr.box
    have b3 : (w3.cell? ⟨bx, 2, none⟩).isSome = true := by simp [World.cell?, hbox]
    have z3 : w3.frozen? ⟨bx, 2, none⟩ = false := by simp [World.frozen?, hbox]
    have d2 := fr.c2
    have s2 := fr.rows.own.isSl
    have hfin := frm_put hbox fr.ge hrg
    have hbl : Below B w (w3.setCell ⟨bx, 2, none⟩ v') := (Below_of_grown bl hgr (by have := fr.ge; have := fr.lt; omega) (fun b hb => (fr.rows.own.lt b hb).1)).setCell (p := ⟨bx, 2, none⟩) fr.ge v'
    simp only [World.size_setCell] at hrun
    have HRUN := Lib.hid hrun; have HFIN := Lib.hid hfin; have HBL := Lib.hid hbl; have HSW := Lib.hid hsw
    have lbx := fr.lt
    clear hrun hfin hbl hsw hrg hgr fr bl o4 o5 hqr pl ql hbox
    go_wp2_with (at_builtin; go_must (refine Lib.wpList_append_run _ rfl _ _ _ _ rfl v _ rfl rfl v' w3 HRUN.out ?_))
    have hgg : Good n (F ++ [swapV (iota n) m]) := HGF.out.app (good_one (by omega) HSW.out)
    refine (settle_calls n (p) v' _ _ B bx _ HFIN.out hgg h2 h6 (by have := HLF.out; simp; omega) ⟨by omega, by omega⟩ (by have := HBL.out.size; omega)).mono ?_
    rintro e w4 ⟨T, v4, vs4, ⟨u, rfl⟩, hre, hti, hf4, hb4⟩
    have HRE := Lib.hid hre; have HTI := Lib.hid hti; have HF4 := Lib.hid hf4; have HB4 := Lib.hid hb4
    clear hre hti hf4 hb4
    go_wp2_with fail
    go_end0
    refine ⟨_, v4, vs4, ⟨_, rfl⟩, ?_, HF4.out, HBL.out.trans HB4.out⟩
    rw [HMUL.out]
    rw [if_pos (by omega)]
    exact ⟨hgg, T, HRE.out, HTI.out, rfl⟩

end Go.Proofs.Ytnmklkjlcpgjmaa


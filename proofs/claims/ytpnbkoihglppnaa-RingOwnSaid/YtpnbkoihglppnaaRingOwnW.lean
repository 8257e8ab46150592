/- RingOwn: for every input the statement returns true, and nothing that was there has changed. -/
import Derived.Test.YtpnbkoihglppnaaRung
import Derived.Test.YtpnbkoihglppnaaRingRows
import Derived.Test.YtpnbkoihglppnaaPerm
namespace Go.Proofs.Ytpnbkoihglppnaa
open Go.RowKit Go.Sl

section
variable {W : World} {B : Nat} {u : Value} {vs : List Value} {xss : List (List Int)}
theorem RO.set (h : RO W B u vs xss) {i k : Nat} (hi : i < xss.length) (hk : k < (nthr xss i).length) (x : Int) : RO (W.setCell (vat (nthv vs i) k) (.int .i64 x)) B u vs (xss.set i ((nthr xss i).set k x)) := by
  have hn : ∀ j, j < xss.length → nthr (xss.set i ((nthr xss i).set k x)) j = if j = i then (nthr xss i).set k x else nthr xss j := by
    intro j hj
    by_cases e : j = i
    · subst e; rw [if_pos rfl, nthr_lt (by simp; omega)]; simp
    · rw [if_neg e, nthr_lt (by simp; omega), nthr_lt hj]; simp [List.getElem_set, Ne.symm e]
  refine ⟨h.own.setOther (fun b hb e => ?_) _, by rw [List.length_set]; exact h.len, fun j hj => ?_, fun j hj => ?_, fun j hj => ?_, fun a b hab hb => ?_⟩
  · simp only [vat_block] at e
    exact h.apart i hi (by rw [hb, e])
  · rw [List.length_set] at hj
    rw [hn j hj]
    by_cases e : j = i
    · subst e; rw [if_pos rfl]; exact (h.row j hj).set hk x
    · rw [if_neg e]
      refine (h.row j hj).setOther (fun b hb eb => ?_) _
      rw [h.rowAt hj] at hb
      simp only [vat_block] at eb
      have hbb : vblk (nthv vs j) = b := Option.some.inj hb
      rcases Nat.lt_or_gt_of_ne e with hlt | hgt
      · exact h.each j i hlt hi (by omega)
      · exact h.each i j hgt hj (by omega)
  · rw [List.length_set] at hj
    rw [hn j hj]
    split
    · rw [List.length_set]; exact h.pos i hi
    · exact h.pos j hj
  · rw [List.length_set] at hj; exact h.apart j hj
  · rw [List.length_set] at hb; exact h.each a b hab hb
theorem RO.setFar (h : RO W B u vs xss) {p : Addr} (hp : p.block < B) (x : Value) : RO (W.setCell p x) B u vs xss :=
  ⟨h.own.setOther (fun b hb e => by have := (h.own.lt b hb).1; omega) _, h.len, fun i hi => (h.row i hi).setOther (fun b hb e => by have := ((h.row i hi).lt b hb).1; omega) _, h.pos, h.apart, h.each⟩
end

/-- The first i rows have been written over, and the first k elements of the next one. -/
structure Fld (L m i k : Nat) (xss : List (List Int)) : Prop where
  len : xss.length = L + 1
  each : ∀ j, j < L + 1 → (nthr xss j).length = m + 1
  done : ∀ j, j < i → j < L + 1 → ∀ t, t < m + 1 → nth (nthr xss j) t = -1 - (j : Int)
  here : ∀ t, t < k → t < m + 1 → nth (nthr xss i) t = -1 - (i : Int)
theorem Fld.next {L m i : Nat} {xss : List (List Int)} (h : Fld L m i (m + 1) xss) : Fld L m (i + 1) 0 xss :=
  ⟨h.len, h.each, fun j hj hl t ht => by
    rcases Nat.lt_or_ge j i with h1 | h1
    · exact h.done j h1 hl t ht
    · obtain rfl : j = i := by omega
      exact h.here t ht ht, fun t ht => by omega⟩
theorem Fld.step {L m i k : Nat} {xss : List (List Int)} (h : Fld L m i k xss) (hi : i < L + 1) (hk : k < m + 1) : Fld L m i (k + 1) (xss.set i ((nthr xss i).set k (-1 - (i : Int)))) := by
  have hl := h.len
  have hn : ∀ j, j < L + 1 → nthr (xss.set i ((nthr xss i).set k (-1 - (i : Int)))) j = if j = i then (nthr xss i).set k (-1 - (i : Int)) else nthr xss j := by
    intro j hj
    by_cases e : j = i
    · subst e; rw [if_pos rfl, nthr_lt (by simp; omega)]; simp
    · rw [if_neg e, nthr_lt (by simp; omega)]
      simp only [List.getElem_set, if_neg (Ne.symm e)]
      exact (nthr_lt (by omega)).symm
  refine ⟨by rw [List.length_set]; exact hl, fun j hj => ?_, fun j hj hjl t ht => ?_, fun t ht htm => ?_⟩
  · rw [hn j hj]; split
    · rw [List.length_set]; exact h.each i hi
    · exact h.each j hj
  · rw [hn j hjl, if_neg (by omega)]; exact h.done j hj hjl t ht
  · rw [hn i hi, if_pos rfl]
    by_cases e : t = k
    · subst e; exact nth_set_same _ (by rw [h.each i hi]; exact htm)
    · rw [nth_set_other _ (Ne.symm e)]; exact h.here t (by omega) htm
theorem ro1_calls (y i : Int) (b : Nat) (w : World) (hc : w.cell? ⟨b, 0, none⟩ = some (.int .i64 i)) (hi : 0 ≤ i) (hi2 : i ≤ 1000) (hy : y = -1 - i) :
    Calls Try.prog 29 #[.int .i64 y, .pointer (some ⟨b, 0, none⟩)] w fun e w' => e = .returned (.bool false) ∧ w = w' := by
  subst hy
  go_enter Try.func29, Try.ntmps29
  go_wp2_with fail
  go_ret
  exact ⟨rfl, rfl⟩

set_option maxHeartbeats 4000000 in
set_option maxRecDepth 100000 in
theorem ringOwn_true {w0 : World} (n : Int) (hn : I64 n) (a : Value) (as1 : List Int) (hra : Ints w0 a as1) (hxa : ∀ x ∈ as1, I64 x)
    (w : World) (hw : w = w0 := by rfl) :
    Calls Try.prog 4 #[.int .i64 n, a] w fun e w' => e = .returned (.bool true) ∧ Below w.heap.size w w' := by
  subst hw
  obtain ⟨m, hm⟩ : ∃ m : Nat, n % 7 = (m : Int) := ⟨(n % 7).toNat, by omega⟩
  have hm7 : m < 7 := by omega
  have h1m : (1 : Int) + (m : Int) = (m : Int) + 1 := Int.add_comm _ _
  obtain ⟨X, hX⟩ : ∃ X, X = changesL (m + 1) as1 20 := ⟨_, rfl⟩
  have CX : ∀ c ∈ X, Chg m c := hX ▸ changesL_right hm7 as1 20
  have LX : X.length ≤ 20 := hX ▸ changesL_length _ as1 20
  obtain ⟨L, hL⟩ : ∃ L, X.length = L := ⟨_, rfl⟩
  have hL20 : L ≤ 20 := by rw [← hL]; exact LX
  have hRL : ∀ j, j < L + 1 → nthr (rowsTo (m + 1) X L) j = runL (iota (m + 1)) (X.take j) := fun j hj => nthr_rowsTo (by omega)
  have HL := Lib.hid hL; have HRL := Lib.hid hRL
  have HCX := Lib.hid CX; have HLX := Lib.hid LX
  have HM := Lib.hid hm; have HX := Lib.hid hX.symm; have HXA := Lib.hid hxa; have HRA := Lib.hid hra; have H1M := Lib.hid h1m
  have sa := hra.isSl
  clear CX LX hm hX hxa hra hL h1m hRL
  go_enter Try.func4, Try.ntmps4
  go_wp2_with fail
  refine (below_calls n 7 _ (by decide) (by decide) hn).mono ?_
  rintro e w' ⟨rfl, rfl⟩
  rw [HM.out]
  go_wp2_with fail
  rw [H1M.out]
  refine (changes_calls m a as1 20 _ HRA.out HXA.out hm7 (by omega)).mono ?_
  rintro e w1 ⟨x, rfl, hx, hb1⟩
  rw [HX.out] at hx
  have sx := hx.isSl
  have lx := hx.len
  rw [HL.out] at lx
  obtain ⟨x1, x2, x3, rfl, -⟩ := sx.cases
  have HXI := Lib.hid hx.ints; have HB1 := Lib.hid hb1
  clear hx hb1
  go_wp2_with fail
  refine (ringRows_calls m _ X _ HXI.out hm7 HCX.out (Nat.le_trans HLX.out (by omega))).mono ?_
  rintro e w2 ⟨p, ps, rfl, hp, hb2⟩
  rw [HL.out] at hp
  have sp := hp.rows.isSl
  have lp := hp.rows.len
  rw [rowsTo_length] at lp
  obtain ⟨p1, p2, p3, rfl, -⟩ := sp.cases
  have HP2 := Lib.hid hp; have HX2 := Lib.hid (HXI.out.below hb2); have HB2 := Lib.hid hb2; have HB02 := Lib.hid (Below.chain HB1.out hb2)
  clear hp hb2
  go_wp2_with fail
  refine (ringRows_calls m _ X _ HX2.out hm7 HCX.out (Nat.le_trans HLX.out (by omega))).mono ?_
  rintro e w3 ⟨q, qs, rfl, hq, hb3⟩
  rw [HL.out] at hq
  have sq := hq.rows.isSl
  have lq := hq.rows.len
  rw [rowsTo_length] at lq
  obtain ⟨q1, q2, q3, rfl, -⟩ := sq.cases
  have HQ3 := Lib.hid hq; have HP3 := Lib.hid (HP2.out.below hb3); have HB03 := Lib.hid (Below.chain HB02.out hb3)
  have hz2 := HB1.out.size
  have hz3 := HB2.out.size
  clear hq hb3
  go_wp2_with fail
  refine (rung_calls _).mono ?_
  rintro e w4 ⟨rfl, hb4⟩
  have HQ4 := Lib.hid (HQ3.out.below hb4); have HP4 := Lib.hid (HP3.out.below hb4); have HB04 := Lib.hid (Below.chain HB03.out hb4)
  clear hb4
  go_wp2_with fail
  have hf0 : Fld L m 0 0 (rowsTo (m + 1) X L) := ⟨rowsTo_length _ _ _, fun j hj => by rw [HRL.out j hj, run_len], fun j hj => by omega, fun t ht => by omega⟩
  have HF0 := Lib.hid hf0; clear hf0
  go_loopw [59] (fun s wr => ∃ (i : Nat) (xss : List (List Int)), i ≤ L + 1 ∧ s = .int .i64 i ∧ RO wr w1.heap.size (.slice p1 p2 p3) ps xss ∧ Fld L m i 0 xss ∧ RO wr w2.heap.size (.slice q1 q2 q3) qs (rowsTo (m + 1) X L) ∧ Below w.heap.size w wr) (fun s _ => L + 1 - (intOf s).toNat)
  case atStart => exact ⟨0, _, Nat.zero_le _, rfl, HP4.out, HF0.out, HQ4.out, HB04.out⟩
  case round =>
    obtain ⟨i, xss, hi, rfl, hro, hfl, hra, hbr⟩ := hrel
    by_cases hlt : i < L + 1
    · have hix : i < xss.length := by rw [hfl.len]; exact hlt
      have c1 := hro.rows.cell hix
      have r1 := hro.row i hix
      have l1 := r1.ints.len
      rw [hfl.each i hlt] at l1
      have s1 := r1.isSl
      obtain ⟨y, hy⟩ : ∃ y, nthv ps i = y := ⟨_, rfl⟩
      rw [hy] at c1 l1 s1
      have HRO := Lib.hid hro; have HFL := Lib.hid hfl; have HRA := Lib.hid hra; have HBR := Lib.hid hbr; have HY := Lib.hid hy
      clear hro hfl hra hbr r1 hix hy
      obtain ⟨y1, y2, y3, rfl, -⟩ := s1.cases
      go_wp2_with fail
      go_loopw [67] (fun s wv => ∃ (k : Nat) (yss : List (List Int)), k ≤ m + 1 ∧ s = .int .i64 k ∧ RO wv w1.heap.size (.slice p1 p2 p3) ps yss ∧ Fld L m i k yss ∧ RO wv w2.heap.size (.slice q1 q2 q3) qs (rowsTo (m + 1) X L) ∧ Below w.heap.size w wv) (fun s _ => m + 1 - (intOf s).toNat)
      case atStart => exact ⟨0, _, Nat.zero_le _, rfl, HRO.out, HFL.out, HRA.out, HBR.out⟩
      case round =>
        obtain ⟨k, yss, hk, rfl, hro, hfl, hra, hbr⟩ := hrel
        by_cases hkt : k < m + 1
        · have hix : i < yss.length := by rw [hfl.len]; exact hlt
          have c2 := hro.rows.cell hix
          have r2 := hro.row i hix
          have hkl : k < (nthr yss i).length := by rw [hfl.each i hlt]; exact hkt
          have c3 := r2.cell hkl
          have f3 := r2.frozen hkl
          have ge3 := (hro.blk hix)
          have hro2 := hro.set hix hkl (-1 - (i : Int))
          have hra2 := hra.setFar (p := vat (nthv ps i) k) (by simp only [vat_block]; exact (HP2.out.blk (by rw [rowsTo_length]; exact hlt)).2) (.int .i64 (-1 - (i : Int)))
          have hbr2 := hbr.setCell (p := vat (nthv ps i) k) (by simp only [vat_block]; omega) (.int .i64 (-1 - (i : Int)))
          have hfl2 := hfl.step hlt hkt
          rw [HY.out] at c2 c3 f3 hro2 hra2 hbr2
          have lb := hfl.each i hlt
          have HRO2 := Lib.hid hro2; have HFL2 := Lib.hid hfl2; have HRA2 := Lib.hid hra2; have HBR2 := Lib.hid hbr2
          clear hro hfl hra hbr hro2 hfl2 hra2 hbr2 r2 hix hkl ge3 lb
          go_wp2_with fail
          refine ⟨⟨k + 1, _, by omega, by go_num, HRO2.out, HFL2.out, HRA2.out, HBR2.out⟩, by simp [intOf]; omega⟩
        · obtain rfl : k = m + 1 := by omega
          have HRO2 := Lib.hid hro; have HFL2 := Lib.hid hfl; have HRA2 := Lib.hid hra; have HBR2 := Lib.hid hbr
          clear hro hfl hra hbr
          go_wp2_with fail
          exact ⟨⟨i + 1, _, by omega, by go_num, HRO2.out, HFL2.out.next, HRA2.out, HBR2.out⟩, by simp [intOf]; omega⟩
    · obtain rfl : i = L + 1 := by omega
      have HRO := Lib.hid hro; have HFL := Lib.hid hfl; have HRA2 := Lib.hid hra; have HBR := Lib.hid hbr
      clear hro hfl hra hbr
      go_wp2_with fail
      go_loopw [82] (fun s wv => ∃ (i : Nat), i ≤ L + 1 ∧ s = .int .i64 i ∧ Below wr.heap.size wr wv) (fun s _ => L + 1 - (intOf s).toNat)
      case atStart => exact ⟨0, Nat.zero_le _, rfl, Below.refl _ _⟩
      case round =>
        obtain ⟨i, hi, rfl, hbv⟩ := hrel
        by_cases hlt : i < L + 1
        · have hixp : i < xss.length := by rw [HFL.out.len]; exact hlt
          have hixq : i < (rowsTo (m + 1) X L).length := by rw [rowsTo_length]; exact hlt
          have cq := (HRA2.out.below hbv).rows.cell hixq
          have rq := ((HRA2.out.below hbv).row i hixq).ints
          rw [HRL.out i hlt] at rq
          have lq := rq.len
          rw [run_len] at lq
          have sq2 := rq.isSl
          have cp := (HRO.out.below hbv).rows.cell hixp
          have rp := ((HRO.out.below hbv).row i hixp).ints
          have sp2 := rp.isSl
          obtain ⟨y, hy⟩ : ∃ y, nthv qs i = y := ⟨_, rfl⟩
          obtain ⟨z, hz⟩ : ∃ z, nthv ps i = z := ⟨_, rfl⟩
          rw [hy] at cq rq lq sq2
          rw [hz] at cp rp sp2
          have hall : ∀ c ∈ nthr xss i, c = -1 - (i : Int) := fun c hc => by
            obtain ⟨t, ht, rfl⟩ := List.mem_iff_getElem.1 hc
            have := HFL.out.done i (by omega) hlt t (by rw [← HFL.out.each i hlt]; exact ht)
            rw [nth_lt ht] at this
            exact this
          have hno : ¬ (-1 - (i : Int)) ∈ runL (iota (m + 1)) (X.take i) := fun h => by
            have := (runL_isPerm (n := m + 1) (X.take i) (by omega)).range _ h
            omega
          have HRQ := Lib.hid rq; have HRP := Lib.hid rp; have HBV := Lib.hid hbv; have HALL := Lib.hid hall; have HNO := Lib.hid hno
          clear rq rp hbv hall hno hy hz hixp hixq
          obtain ⟨y1, y2, y3, rfl, -⟩ := sq2.cases
          obtain ⟨z1, z2, z3, rfl, -⟩ := sp2.cases
          go_wp2_with fail
          refine (contains_no _ _ _ _ (HRQ.out.alloc _) HNO.out).mono ?_
          rintro e w' ⟨rfl, rfl⟩
          have cp2 : (wr.alloc (.cells #[.int .i64 (i : Int)] 3)).cell? (vat (.slice p1 p2 p3) i) = some (.slice z1 z2 z3) := (((Below.refl _ wr).alloc (Nat.le_refl _) _).cell (World.block_lt_of_cell? wr _ cp)).trans cp
          go_wp2_with fail
          refine (containsFunc_none _ (nthr xss i) _ #[.pointer (some ⟨wr.heap.size, 0, none⟩)] (ring_enters (Go.Proofs.enters_of Try.func29 (by kernel_rfl) rfl)) _ (HRP.out.alloc _) (fun x hxm => ro1_calls x i wr.heap.size _ (by simp [go_sem]) (by omega) (by omega) (HALL.out x hxm))).mono ?_
          rintro e w' ⟨rfl, rfl⟩
          go_wp2_with fail
          refine ⟨⟨_, _, _, _, _, _, _, _, _, _, _, _, _, _, _, _, _, _, _, _, _, _, _, _, _, _, _, ⟨i + 1, by omega, ?_, HBV.out.alloc HBV.out.size _⟩, rfl⟩, ?_⟩
          · go_num
          · simp [intOf]; omega
        · have HBV := Lib.hid hbv; clear hbv
          go_wp2_with fail
          go_ret
          exact ⟨rfl, Below.chain HBR.out HBV.out⟩
end Go.Proofs.Ytpnbkoihglppnaa

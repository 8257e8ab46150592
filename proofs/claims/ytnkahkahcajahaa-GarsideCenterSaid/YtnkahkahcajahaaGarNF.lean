/- garside.NormalForm walked. -/
import Derived.Test.YtnkahkahcajahaaGarFormOf
import Derived.Test.YtnkahkahcajahaaRowsOwn
import Derived.Test.YtnkahkahcajahaaBraid
import Derived.Test.YtnkahkahcajahaaEqualFunc
import Derived.Deep.RegionHeld3
namespace Go.Proofs.Ytnkahkahcajahaa
open Go.RowKit Go.Sl

theorem ro_nil (w : World) (B : Nat) : RO w B (.slice none 0 0) [] [] := ⟨own_nil _ _ _ _, rfl, fun i hi => by simp at hi, fun i hi => by simp at hi, fun i hi => by simp at hi, fun i j _ hj => by simp at hj⟩
theorem bword_lt {n : Nat} {xs : List Int} (h : BWord n xs) : ∀ x ∈ xs, Lt n x := fun x hx => by
  have := h x hx
  unfold Lt
  omega

set_option maxRecDepth 100000 in
set_option maxHeartbeats 4000000 in
theorem normalForm_calls (n : Nat) (v : Value) (xs : List Int) (w : World) (hv : Ints w v xs) (h2 : 2 ≤ n) (h6 : n ≤ 6) (hx : BWord n xs) (hl : xs.length ≤ 30) :
    Calls Try.prog 49 #[.int .i64 n, v] w fun e w' => ∃ c l ls, e = .returned (.tuple #[.int .i64 c.1, l, .int .i64 0]) ∧ Cn n (mulW n (0, []) xs) c ∧ RO w' w.heap.size l ls c.2 ∧ Below w.heap.size w w' := by
  have sv := hv.isSl
  have HC := Lib.hid (bcheck_calls n v xs w hv (by omega) (by omega) hx hl)
  have HV := Lib.hid hv; have HX := Lib.hid hx
  clear hv hx
  go_enter Try.func49, Try.ntmps49
  go_wp2_with fail
  refine HC.out.mono ?_
  rintro e w1 ⟨rfl, hb1⟩
  have HB1 := Lib.hid hb1; clear hb1
  go_wp2_with fail
  refine (formOf_calls n v xs _ (HV.out.below HB1.out) h2 h6 (bword_lt HX.out) hl).mono ?_
  rintro e w2 ⟨⟨p, F⟩, u, us, rfl, hcn, hf, hb2⟩
  have hbd := cn_bounds hcn
  have hml : ∀ (ys : List Int) (s : St), (mulW n s ys).2.length = s.2.length + ys.length := by
    intro ys
    induction ys with
    | nil => intro s; simp [mulW]
    | cons y ys ih => intro s; rw [show mulW n s (y :: ys) = mulW n (mulS n s y) ys from rfl, ih]; unfold mulS; split <;> simp <;> omega
  have hFl : F.length ≤ 30 := by have := hbd.1; rw [hml] at this; simp at this; omega
  obtain ⟨bx, hbx⟩ : ∃ b, b = w1.heap.size := ⟨_, rfl⟩
  rw [← hbx] at hf ⊢
  have c1 := hf.c1
  have c2 := hf.c2
  have su := hf.rows.own.isSl
  have lu := hf.rows.own.len
  rw [hf.rows.len] at lu
  obtain ⟨L, hL⟩ : ∃ L, F.length = L := ⟨_, rfl⟩
  rw [hL] at lu hFl
  have hgd := cn_good hcn
  have HCN := Lib.hid hcn; have HF := Lib.hid hf; have HB2 := Lib.hid (Below.chain HB1.out hb2); have HL := Lib.hid hL; have HGD := Lib.hid hgd
  have hBl : w.heap.size ≤ bx := by rw [hbx]; exact HB1.out.size
  have HBX := Lib.hid hBl
  clear hcn hf hb2 hL hbd hml hbx hgd hBl
  simp only at c1 c2
  go_wp2_with fail
  clear c1 c2
  rename World => W0
  go_loopw [9, 26] (fun s i wr => ∃ (k : Nat) (os : List Value), i = .int .i64 k ∧ k ≤ L ∧ RO wr W0.heap.size s os (F.take k) ∧ Below W0.heap.size W0 wr) (fun _ i _ => L - (intOf i).toNat)
  case atStart => exact ⟨0, [], rfl, Nat.zero_le _, by simpa using ro_nil _ _, Below.refl _ _⟩
  case round =>
    obtain ⟨k, os, rfl, hk, ho, hbb⟩ := hrel
    have hR := HF.out.below hbb
    by_cases hlt : k < L
    · have hkF : k < F.length := by rw [HL.out]; exact hlt
      have k0 := hR.rows.own.cell (j := k) (by rw [hR.rows.len]; exact hkF)
      have e0 : us[k]'(by rw [hR.rows.len]; exact hkF) = nthv us k := by rw [nthv_lt (by rw [hR.rows.len]; exact hkF)]
      rw [e0] at k0
      have r0 := (hR.rows.row k hkF).ints
      have s0 := r0.isSl
      have hpn : Pn n (nthr F k) := by rw [nthr_lt hkF]; exact HGD.out _ (List.getElem_mem _)
      obtain ⟨q0, hq0⟩ : ∃ q, nthv us k = q := ⟨_, rfl⟩
      obtain ⟨ys, hys⟩ : ∃ ys, nthr F k = ys := ⟨_, rfl⟩
      rw [hq0] at k0 r0 s0
      rw [hys] at r0 hpn
      have htk : F.take (k + 1) = F.take k ++ [ys] := by rw [List.take_succ_eq_append_getElem hkF, ← hys, nthr_lt hkF]
      have so := ho.rows.isSl
      have HO := Lib.hid ho; have HBB := Lib.hid hbb; have HR0 := Lib.hid r0; have HPN := Lib.hid hpn; have HTK := Lib.hid htk; have HKF := Lib.hid hkF
      clear ho hbb hR r0 hpn htk e0 hq0 hys hkF
      rename World => W1
      go_wp2_with fail
      refine (clone_calls q0 ys _ HR0.out (by rw [HPN.out.len]; omega)).mono ?_
      rintro e w3 ⟨z, rfl, hz, hb3⟩
      have HZ := Lib.hid hz; have HB3 := Lib.hid hb3
      have sz := hz.isSl
      clear hz hb3
      go_wp2_with fail
      refine (clip_calls z ys _ _ HZ.out).mono ?_
      rintro e w4 ⟨rfl, z', rfl, hz'⟩
      have sz' := hz'.isSl
      have hzl : 0 < ys.length := by rw [HPN.out.len]; omega
      have hzr : Go.Sl.row z' = some (vblk z') := row_some (by have := hz'.ints.cap; omega)
      have hzb := (hz'.lt _ hzr).1
      have hap : Go.Sl.row u9 ≠ some (vblk z') := fun e => by have := (HO.out.own.lt _ e).2; omega
      have hea : ∀ i, i < (F.take k).length → vblk (nthv os i) ≠ vblk z' := fun i hi e => by have := (HO.out.blk hi).2; omega
      have HZ2 := Lib.hid (hz'.low (show W0.heap.size ≤ W1.heap.size from HBB.out.size)); have HZL := Lib.hid hzl; have HAP := Lib.hid hap; have HEA := Lib.hid hea
      have HO3 := Lib.hid (HO.out.below HB3.out)
      have HB03 := Lib.hid (Below.chain HBB.out HB3.out)
      have HTL := Lib.hid (show (F.take k).length ≤ 1000000000000 by simp; omega)
      clear hz' hzl hzr hzb hap hea
      have hbs3 := HB03.out.size
      obtain ⟨z1, z2, z3, rfl, -⟩ := sz'.cases
      go_wp2_with (at_builtin; refine wpList_pushRO (v := u9) rfl _ _ rfl rfl rfl HO3.out HZ2.out HZL.out hbs3 HTL.out HAP.out HEA.out ?_; intro out2 w4 ho4 hg4; have s4 := ho4.rows.isSl)
      rw [← HTK.out] at ho4
      have hbW : Below W0.heap.size W0 w4 := Below_of_grown HB03.out hg4 hbs3 (fun b hb => (HO.out.own.lt b hb).1)
      go_roundw
      case rel => exact ⟨k + 1, _, by go_num, by omega, ho4, hbW⟩
      case measure => simp [intOf]; omega
    · obtain rfl : k = L := by omega
      have htk : F.take k = F := List.take_of_length_le (by rw [HL.out]; exact Nat.le_refl _)
      rw [htk] at ho
      have c1 := hR.c1
      have so := ho.rows.isSl
      have HO := Lib.hid ho; have HBB := Lib.hid hbb
      clear ho hbb hR htk
      go_wp2_with fail
      refine wp_region_held_drew (S := fun w => w.cell? ⟨bx, 1, none⟩ = some (.int .i64 p)) (by kernel_rfl) (c1) (fun hHeld => ?_)
      refine' wpAnyH_take (i := 0) (oi := ?oiz1) (v := ?vz1) ?haz1 (by kernel_rfl) ?hfz1 ?hrz1 ?hQz1 (Or.inl ⟨?hwz1, ?hyz1⟩) (by assumption) ?restz1
      case haz1 => (simp only [List.getElem?_toArray, List.getElem?_cons_succ, List.getElem?_cons_zero]; exact rfl)
      case hQz1 => exact fun _ _ _ h => h
      case hfz1 => kernel_rfl
      case hrz1 => kernel_rfl
      case hwz1 => rfl
      case hyz1 => (intro w hSw; (try dsimp only at hSw); have e0 := hSw; go_simp; (try with_reducible rfl))
      try simp only [Act.put, List.setIfInBounds_toArray, List.set_cons_zero, List.set_cons_succ]
      refine' wpAnyH_take (i := 1) (oi := ?oiz2) (v := ?vz2) ?haz2 (by kernel_rfl) ?hfz2 ?hrz2 ?hQz2 (Or.inl ⟨?hwz2, ?hyz2⟩) (by assumption) ?restz2
      case haz2 => (simp only [List.getElem?_toArray, List.getElem?_cons_succ, List.getElem?_cons_zero]; exact rfl)
      case hQz2 => exact fun _ _ _ h => h
      case hfz2 => kernel_rfl
      case hrz2 => kernel_rfl
      case hwz2 => rfl
      case hyz2 => (intro w hSw; (try dsimp only at hSw); have e0 := hSw; go_simp; (try with_reducible rfl))
      try simp only [Act.put, List.setIfInBounds_toArray, List.set_cons_zero, List.set_cons_succ]
      refine' wpAnyH_take (i := 2) (oi := ?oiz3) (v := ?vz3) ?haz3 (by kernel_rfl) ?hfz3 ?hrz3 ?hQz3 (Or.inl ⟨?hwz3, ?hyz3⟩) (by assumption) ?restz3
      case haz3 => (simp only [List.getElem?_toArray, List.getElem?_cons_succ, List.getElem?_cons_zero]; exact rfl)
      case hQz3 => exact fun _ _ _ h => h
      case hfz3 => kernel_rfl
      case hrz3 => kernel_rfl
      case hwz3 => rfl
      case hyz3 => (intro w hSw; (try dsimp only at hSw); have e0 := hSw; go_simp; (try with_reducible rfl))
      try simp only [Act.put, List.setIfInBounds_toArray, List.set_cons_zero, List.set_cons_succ]
      refine' wpAnyH_take (i := 3) (oi := ?oiz4) (v := ?vz4) ?haz4 (by kernel_rfl) ?hfz4 ?hrz4 ?hQz4 (Or.inl ⟨?hwz4, ?hyz4⟩) (by assumption) ?restz4
      case haz4 => (simp only [List.getElem?_toArray, List.getElem?_cons_succ, List.getElem?_cons_zero]; exact rfl)
      case hQz4 => exact fun _ _ _ h => h
      case hfz4 => kernel_rfl
      case hrz4 => kernel_rfl
      case hwz4 => rfl
      case hyz4 => (intro w hSw; (try dsimp only at hSw); have e0 := hSw; go_simp; (try with_reducible rfl))
      try simp only [Act.put, List.setIfInBounds_toArray, List.set_cons_zero, List.set_cons_succ]
      refine' wpAnyH_take (i := 4) (oi := ?oiz5) (v := ?vz5) ?haz5 (by kernel_rfl) ?hfz5 ?hrz5 ?hQz5 (Or.inl ⟨?hwz5, ?hyz5⟩) (by assumption) ?restz5
      case haz5 => (simp only [List.getElem?_toArray, List.getElem?_cons_succ, List.getElem?_cons_zero]; exact rfl)
      case hQz5 => exact fun _ _ _ h => h
      case hfz5 => kernel_rfl
      case hrz5 => kernel_rfl
      case hwz5 => rfl
      case hyz5 => (intro w hSw; (try dsimp only at hSw); have e0 := hSw; go_simp; (try with_reducible rfl))
      try simp only [Act.put, List.setIfInBounds_toArray, List.set_cons_zero, List.set_cons_succ]
      refine wpAnyH_ready (rs := [5]) (by kernel_rfl) (by simp) ?_
      refine' AllReadyH.cons (o := ?oiz6) ?haz6 (fun K hK => ?stepz6) AllReadyH.nil
      case haz6 => (simp only [List.getElem?_toArray, List.getElem?_cons_succ, List.getElem?_cons_zero]; exact rfl)
      go_simp
      go_at_call 78
      refine (clipRows_calls _ os F _ _ (HO.out.below (Below.refl _ _).drew)).mono ?_
      rintro e wc ⟨rfl, l, rfl, hl⟩
      have HLL := Lib.hid hl
      have sl := hl.rows.isSl
      clear hl
      refine hK.out _ _ (c1) (fun hHeld => ?_)
      clear hK K
      try simp only [Act.put, List.setIfInBounds_toArray, List.set_cons_zero, List.set_cons_succ]
      refine' wpAnyH_take (i := 6) (oi := ?oiz7) (v := ?vz7) ?haz7 (by kernel_rfl) ?hfz7 ?hrz7 ?hQz7 (Or.inl ⟨?hwz7, ?hyz7⟩) (by assumption) ?restz7
      case haz7 => (simp only [List.getElem?_toArray, List.getElem?_cons_succ, List.getElem?_cons_zero]; exact rfl)
      case hQz7 => exact fun _ _ _ h => h
      case hfz7 => kernel_rfl
      case hrz7 => kernel_rfl
      case hwz7 => rfl
      case hyz7 => (intro w hSw; (try dsimp only at hSw); have e0 := hSw; go_simp; (try with_reducible rfl))
      try simp only [Act.put, List.setIfInBounds_toArray, List.set_cons_zero, List.set_cons_succ]
      refine' wpAnyH_take (i := 7) (oi := ?oiz8) (v := ?vz8) ?haz8 (by kernel_rfl) ?hfz8 ?hrz8 ?hQz8 (Or.inl ⟨?hwz8, ?hyz8⟩) (by assumption) ?restz8
      case haz8 => (simp only [List.getElem?_toArray, List.getElem?_cons_succ, List.getElem?_cons_zero]; exact rfl)
      case hQz8 => exact fun _ _ _ h => h
      case hfz8 => kernel_rfl
      case hrz8 => kernel_rfl
      case hwz8 => rfl
      case hyz8 => (intro w hSw; (try dsimp only at hSw); have e0 := hSw; go_simp; (try with_reducible rfl))
      try simp only [Act.put, List.setIfInBounds_toArray, List.set_cons_zero, List.set_cons_succ]
      refine' wpAnyH_take (i := 8) (oi := ?oiz9) (v := ?vz9) ?haz9 (by kernel_rfl) ?hfz9 ?hrz9 ?hQz9 (Or.inl ⟨?hwz9, ?hyz9⟩) (by assumption) ?restz9
      case haz9 => (simp only [List.getElem?_toArray, List.getElem?_cons_succ, List.getElem?_cons_zero]; exact rfl)
      case hQz9 => exact fun _ _ _ h => h
      case hfz9 => kernel_rfl
      case hrz9 => kernel_rfl
      case hwz9 => rfl
      case hyz9 => (intro w hSw; (try dsimp only at hSw); have e0 := hSw; go_simp; (try with_reducible rfl))
      try simp only [Act.put, List.setIfInBounds_toArray, List.set_cons_zero, List.set_cons_succ]
      refine wpAnyH_done (by kernel_rfl) ?_ _
      go_wp2_with fail
      go_ret3
      exact ⟨(p, F), l, os, rfl, HCN.out, HLL.out.low HB2.out.size, (Below.chain HB2.out HBB.out).drew⟩

end Go.Proofs.Ytnkahkahcajahaa

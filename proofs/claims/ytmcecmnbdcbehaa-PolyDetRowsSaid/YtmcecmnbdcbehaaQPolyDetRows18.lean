/- timbmake.Poly walked once more: its coefficients lie in a block of the call's own, of the type int. -/
import Derived.Test.YtmcecmnbdcbehaaQPolyDetRows0
import Derived.Test.YtmcecmnbdcbehaaQPolyDetRows1
import Derived.Test.YtmcecmnbdcbehaaQPolyDetRows2
import Derived.Test.YtmcecmnbdcbehaaQPolyDetRows3
import Derived.Test.YtmcecmnbdcbehaaQPolyDetRows4
import Derived.Test.YtmcecmnbdcbehaaQPolyDetRows5
import Derived.Test.YtmcecmnbdcbehaaQPolyDetRows6
import Derived.Test.YtmcecmnbdcbehaaQPolyDetRows7
import Derived.Test.YtmcecmnbdcbehaaQPolyDetRows9
import Derived.Test.YtmcecmnbdcbehaaQPolyDetRows10
import Derived.Test.YtmcecmnbdcbehaaQPolyDetRows11
import Derived.Test.YtmcecmnbdcbehaaQPolyDetRows12
import Derived.Test.YtmcecmnbdcbehaaQPolyDetRows13
import Derived.Test.YtmcecmnbdcbehaaQPolyDetRows14
import Derived.Test.YtmcecmnbdcbehaaQPolyDetRows17

namespace Go.Proofs.Ytmcecmnbdcbehaa
open Go.RowKit Go.Sl

def OwnGI (w : World) (B : Nat) (v : Value) (xs : List Int) : Prop := OwnG w B 3 v (xs.map (Value.int .i64))
section
variable {w w' : World} {B : Nat} {v : Value} {xs : List Int}
theorem OwnGI.ints (h : OwnGI w B v xs) : Ints w v xs := h.sl
theorem OwnGI.isSl (h : OwnGI w B v xs) : IsSl v := h.1
theorem OwnGI.len (h : OwnGI w B v xs) : vlen v = xs.length := by have := OwnG.len h; simpa using this
theorem OwnGI.cap (h : OwnGI w B v xs) : xs.length ≤ vcap v := by have := h.len; have := h.isSl.le; omega
theorem OwnGI.below (h : OwnGI w B v xs) (hb : Below w.heap.size w w') : OwnGI w' B v xs := OwnG.below h hb
theorem OwnGI.lt (h : OwnGI w B v xs) : ∀ k, row v = some k → B ≤ k ∧ k < w.heap.size := OwnG.lt h
theorem OwnGI.low (h : OwnGI w B v xs) {B' : Nat} (hB : B' ≤ B) : OwnGI w B' v xs := OwnG.low h hB
theorem OwnGI.setOther (h : OwnGI w B v xs) {p : Addr} (hp : ∀ k, row v = some k → p.block ≠ k) (u : Value) : OwnGI (w.setCell p u) B v xs := OwnG.setOther h hp u
theorem OwnGI.grown (h : OwnGI w B v xs) {r : Option Nat} (hg : w.grownBy w' r) (hr : ∀ k, row v = some k → r ≠ some k) : OwnGI w' B v xs := OwnG.grown h hg hr
theorem OwnGI.cell (h : OwnGI w B v xs) {k : Nat} (hk : k < xs.length) : w.cell? (vat v k) = some (.int .i64 (nth xs k)) := h.ints.cell hk
theorem ownGI_nil (w : World) (B : Nat) : OwnGI w B (.slice none 0 0) [] := ownG_nil _ _ _
theorem OwnI.g (h : OwnI w B v xs) : OwnGI w B v xs := own_G h
theorem OwnGI.tail {k : Nat} (h : OwnGI w B v (xs.drop k)) (hk : k < xs.length) : OwnGI w B (vcut v 1 (vlen v) (vcap v) 1) (xs.drop (k + 1)) := by
  rw [List.drop_eq_getElem_cons hk] at h
  exact OwnG.tail h
theorem OwnGI.head (h : OwnGI w B v xs) {k : Nat} (hk : k ≤ xs.length) : OwnGI w B (vcut v 0 k (vcap v) 1) (xs.take k) := by
  have := OwnG.head h (k := k) (by simpa using hk)
  rwa [← List.map_take] at this
end

set_option maxHeartbeats 1000000 in
set_option maxRecDepth 100000 in
theorem makepolyG_calls (low : Int) (raw : Value) (zs : List Int) (w : World) (hlow : I64 low) (hr : Ints w raw zs) (hz : ∀ z ∈ zs, I64 z) :
    Calls Try.prog 17 #[.int .i64 low, raw] w fun e w' => ∃ s, e = .returned (.agg #[.int .i64 (polyL low zs).low, s]) ∧ OwnGI w' w.heap.size s (polyL low zs).c ∧ Below w.heap.size w w' := by
  have sr := hr.isSl
  have lr := hr.len
  have hcap := hr.cap
  obtain ⟨L, hL⟩ : ∃ L, L = zs.length := ⟨_, rfl⟩
  obtain ⟨ys, hys⟩ : ∃ ys, ys = zs.take 12 := ⟨_, rfl⟩
  rw [← hL] at lr hcap
  have i63 := sr.i63
  rw [lr] at i63
  obtain ⟨n, hn⟩ : ∃ n, n = min L 12 := ⟨_, rfl⟩
  have hn1 : n ≤ L := by omega
  have hn2 : n ≤ 12 := by omega
  have hmin : min (L : Int) 12 = (n : Int) := by omega
  have htk : zs.take n = ys := by rw [hys, hn, hL, List.take_eq_take_iff]; omega
  have hcut : Ints w (vcut raw 0 n (vcap raw) 1) ys := by
    have := hr.cut (l := 0) (r := n) (m := vcap raw) (by omega) (by omega) (by omega) (by omega)
    rw [← htk]
    simpa using this
  have hyl : ys.length = n := by rw [← htk]; simp; omega
  have hyz : ∀ y ∈ ys, I64 y := fun y hy => hz y (List.mem_of_mem_take (by rw [htk]; exact hy))
  obtain ⟨C, hC⟩ : ∃ C, C = coefL zs := ⟨_, rfl⟩
  have hCy : C = ys.map fun x => x % 101 - 50 := by rw [hC, hys]; rfl
  have hCl : C.length = n := by rw [hCy, List.length_map, hyl]
  obtain ⟨l0, hl0⟩ : ∃ l0, l0 = low % 21 - 10 := ⟨_, rfl⟩
  have hl1 : -10 ≤ l0 := by omega
  have hl2 : l0 ≤ 10 := by omega
  obtain ⟨R, hR⟩ : ∃ R, R = polyL low zs := ⟨_, rfl⟩
  have hRt : trimP l0 C = R := by rw [hR, hC, hl0]; rfl
  rw [← hR]
  have hnc : n ≤ vcap raw := by omega
  clear hn hys htk hL hr hz hC hR
  have HCUT := Lib.hid hcut
  have sc := hcut.isSl
  have lc := hcut.len
  rw [hyl] at lc
  have HYL := Lib.hid hyl; have HYZ := Lib.hid hyz; have HCY := Lib.hid hCy; have HCL := Lib.hid hCl; have HRT := Lib.hid hRt; have HL0 := Lib.hid hl0.symm
  clear hcut hyl hyz hCy hCl hRt hl0
  obtain ⟨W1, hW1⟩ : ∃ W1, W1 = w.alloc (.cells #[.int .i64 0, .slice none 0 0] 27) := ⟨_, rfl⟩
  have P1 := Lib.hid (show Pair W1 w.heap.size 27 (.int .i64 0) (.slice none 0 0) by rw [hW1]; exact pair_new w _ _ _)
  have B1 := Lib.hid (show Below w.heap.size w W1 by rw [hW1]; exact (Below.refl _ _).alloc (Nat.le_refl _) _)
  have HZ1 := Lib.hid (show W1.heap.size = w.heap.size + 1 by rw [hW1]; simp)
  have HW1 := Lib.hid hW1.symm; clear hW1
  go_enter Try.func17, Try.ntmps17
  go_wp2_with fail
  rw [HW1.out]
  go_loopw [5, 14] (fun c i wr => ∃ k : Nat, k ≤ n ∧ i = .int .i64 k ∧ OwnI wr W1.heap.size c ((ys.take k).map fun x => x % 101 - 50) ∧ Below W1.heap.size W1 wr) (fun _ i _ => n - (intOf i).toNat)
  case atStart => exact ⟨0, Nat.zero_le _, rfl, ownI_nil _ _, Below.refl _ _⟩
  case round =>
    obtain ⟨k, hk, rfl, ho, hbr⟩ := hrel
    have hbs := hbr.size
    by_cases hlt : k < n
    · have c1 := ((HCUT.out.below B1.out).below hbr).cell (k := k) (by rw [HYL.out]; exact hlt)
      have hi : I64 (nth ys k) := HYZ.out _ (nth_mem (by rw [HYL.out]; exact hlt))
      have hll : ((ys.take k).map fun x => x % 101 - 50).length ≤ 1000 := by simp; omega
      obtain ⟨z, hz⟩ : ∃ z, nth ys k % 101 = z := ⟨_, rfl⟩
      have hz1 : 0 ≤ z := by omega
      have hz2 : z ≤ 100 := by omega
      have hnx : ((ys.take k).map fun x => x % 101 - 50) ++ [z - 50] = (ys.take (k + 1)).map fun x => x % 101 - 50 := by
        have hk2 : k < ys.length := by rw [HYL.out]; exact hlt
        rw [List.take_succ_eq_append_getElem hk2, List.map_append, ← hz, nth_lt hk2]; rfl
      have HX := Lib.hid hnx; have HZ := Lib.hid hz; have HI := Lib.hid hi
      have HBR := Lib.hid hbr; clear hbr hnx hz hi
      go_wp2_with (first
        | (go_at_call 16; refine (below_calls _ 101 _ (by omega) (by omega) HI.out).mono ?_; rintro e w' ⟨rfl, rfl⟩; rw [HZ.out])
        | (at_builtin; refine wpList_push (v := u5) rfl _ _ rfl rfl rfl ho hbs (by omega) ?_; intro out2 w2 ho2 hg2 hr2))
      rw [HX.out] at ho2
      have hb2 : Below W1.heap.size W1 w2 := Below_of_grown HBR.out hg2 hbs (fun b hb => (ho.lt b hb).1)
      go_roundw
      case rel => exact ⟨k + 1, by omega, by go_num, ho2, hb2⟩
      case measure => simp [intOf]; omega
    · have hk' : k = n := by omega
      have hfull : (ys.take k).map (fun x => x % 101 - 50) = C := by rw [HCY.out, List.take_of_length_le (by rw [HYL.out]; omega)]
      rw [hfull] at ho
      have HO := Lib.hid ho; have HBR := Lib.hid hbr; clear ho hbr hfull
      go_wp2_with (first
        | (go_at_call 16; refine (below_calls _ 21 _ (by omega) (by omega) hlow).mono ?_; rintro e w' ⟨rfl, rfl⟩))
      simp only [HL0.out]
      have B2 := Lib.hid (B1.out.trans (HBR.out.mono (by rw [HZ1.out]; omega)))
      have HI0 := Lib.hid (OwnI.g HO.out)
      go_loop [0, 5] (fun l c => ∃ k : Nat, k ≤ n ∧ l = .int .i64 (l0 + k) ∧ OwnGI wr W1.heap.size c (C.drop k) ∧ ∀ j, j < k → nth C j = 0) (fun l _ => (l0 + n - intOf l).toNat)
      case atStart => exact ⟨0, Nat.zero_le _, by simp, by simpa using HI0.out, fun j hj => by omega⟩
      case round =>
        obtain ⟨k, hk, rfl, hc, hz⟩ := hrel
        have sv := hc.isSl
        have lv := hc.len
        have hcp := hc.cap
        obtain ⟨r, hr⟩ : ∃ r, r = n - k := ⟨_, rfl⟩
        rw [List.length_drop, HCL.out, ← hr] at lv hcp
        have HC := Lib.hid hc; have HZ := Lib.hid hz; clear hc hz
        by_cases hr0 : 0 < r
        · have d1 := HC.out.cell (k := 0) (by rw [List.length_drop, HCL.out]; omega)
          rw [nth_drop, Nat.add_zero] at d1
          have hri : (0 : Int) < (r : Int) := by omega
          have hrn : k + r = n := by omega
          have HR := Lib.hid hr; clear hr
          by_cases hx : nth C k = 0
          · have HX := Lib.hid hx
            rw [hx] at d1
            have hcut2 : OwnGI wr W1.heap.size (vcut u5 1 r (vcap u5) 1) (C.drop (k + 1)) := by
              have h := HC.out.tail (by rw [HCL.out]; omega)
              rw [lv] at h
              exact h
            have HCU := Lib.hid hcut2; clear hcut2 hx
            go_wp2_with fail
            go_round
            case rel => exact ⟨k + 1, by omega, by go_num, HCU.out, fun j hj => by
              rcases Nat.lt_or_ge j k with h | h
              · exact HZ.out j h
              · have e : j = k := by omega
                rw [e]; exact HX.out⟩
            case measure => simp [intOf]; omega
          · have hx0 : (nth C k == 0) = false := by simp [hx]
            have HX := Lib.hid hx; clear hx
            go_wp2_with fail
            go_loop [5] (fun c => ∃ m : Nat, 0 < m ∧ m ≤ r ∧ OwnGI wr W1.heap.size c ((C.drop k).take m) ∧ ∀ j, k + m ≤ j → nth C j = 0) (fun c => vlen c)
            case atStart => exact ⟨r, hr0, Nat.le_refl _, by rw [List.take_of_length_le (by rw [List.length_drop, HCL.out]; omega)]; exact HC.out, fun j hj => nth_ge (by rw [HCL.out]; omega)⟩
            case round =>
              obtain ⟨m, hm0, hmr, hc, hz⟩ := hrel
              have sv2 := hc.isSl
              have lv2 := hc.len
              have hcp2 := hc.cap
              have hml : ((C.drop k).take m).length = m := by rw [List.length_take, List.length_drop, HCL.out]; omega
              rw [hml] at lv2 hcp2
              obtain ⟨q, hq⟩ : ∃ q, q = m - 1 := ⟨_, rfl⟩
              have hqm : q < m := by omega
              have hqi : (m : Int) - 1 = (q : Int) := by omega
              have hmi : (0 : Int) < (m : Int) := by omega
              have d2 := hc.cell (k := q) (by rw [hml]; exact hqm)
              rw [nth_take hqm, nth_drop] at d2
              have HC2 := Lib.hid hc; have HZ2 := Lib.hid hz; have HML := Lib.hid hml; have HQ := Lib.hid hq; clear hc hz hml hq
              by_cases hy : nth C (k + q) = 0
              · have HY := Lib.hid hy
                rw [hy] at d2
                have hq0 : 0 < q := by
                  rcases Nat.eq_zero_or_pos q with h | h
                  · exact absurd (by rw [h] at hy; exact hy) HX.out
                  · exact h
                have hcut3 : OwnGI wr W1.heap.size (vcut u5 0 q (vcap u5) 1) ((C.drop k).take q) := by
                  have h := HC2.out.head (k := q) (by rw [HML.out]; omega)
                  rw [List.take_take, Nat.min_eq_left (by omega)] at h
                  exact h
                have HCU := Lib.hid hcut3; clear hcut3 hy
                go_wp2_with fail
                go_round
                case rel => exact ⟨q, hq0, by omega, HCU.out, fun j hj => by
                  rcases Nat.lt_or_ge (k + q) j with h | h
                  · exact HZ2.out j (by have := HQ.out; omega)
                  · have e : j = k + q := by omega
                    rw [e]; exact HY.out⟩
                case measure => simp [vlen_cut]; omega
              · have hy0 : (nth C (k + q) == 0) = false := by simp [hy]
                have HY := Lib.hid hy; clear hy
                have hfin : R = ⟨l0 + k, (C.drop k).take m⟩ := by
                  rw [← HRT.out, trimP_some (m := k) (L := k + m) (by omega) (by rw [HCL.out]; omega) HZ.out HX.out (by rw [show k + m - 1 = k + q by have := HQ.out; omega]; exact HY.out) HZ2.out, show k + m - k = m by omega]
                have HFIN := Lib.hid hfin; clear hfin
                have p1 := (P1.out.below HBR.out)
                have c0 := p1.cell0; have c1 := p1.cell1; have f0 := p1.free0; have f1 := p1.free1
                have hlt1 := p1.lt
                clear p1
                have hmz : ((m : Int) == 0) = false := by rw [beq_eq_false_iff_ne]; omega
                go_wp2_with fail
                · cases sv2.1
                · cases sv2.1
                · refine bodyPost_ret (v := .agg #[.int .i64 (l0 + k), u5]) (by simp [results, Try.results17, go_sem, c0, c1]) rfl ⟨_, by rw [HFIN.out], ?_, (B2.out.setCell (by simp) _).setCell (by simp) _⟩
                  rw [HFIN.out]
                  have hap : ∀ k, row u5 = some k → w.heap.size ≠ k := fun k hk e => by have := (HC2.out.lt k hk).1; have := HZ1.out; omega
                  exact ((HC2.out.low (show w.heap.size ≤ W1.heap.size by have := HZ1.out; omega)).setOther (p := ⟨w.heap.size, 0, none⟩) hap _).setOther (p := ⟨w.heap.size, 1, none⟩) hap _
        · have hkn : k = n := by omega
          have hall : R = ⟨0, []⟩ := by
            rw [← HRT.out]; exact trimP_zero fun j hj => HZ.out j (by rw [HCL.out] at hj; omega)
          have hr1 : r = 0 := by omega
          have HALL := Lib.hid hall; clear hall hkn
          have p1 := (P1.out.below HBR.out)
          have c0 := p1.cell0; have c1 := p1.cell1; have f0 := p1.free0; have f1 := p1.free1
          clear p1 hr
          subst hr1
          go_wp2_with fail
          go_loop [5] (fun c => vlen c = 0 ∧ IsSl c) (fun c => 0)
          case atStart => exact ⟨lv, sv⟩
          case round =>
            obtain ⟨lv3, sv3⟩ := hrel
            go_wp2_with fail
            refine bodyPost_ret (v := .agg #[.int .i64 0, .slice none 0 0]) (by simp [results, Try.results17, go_sem, c0, c1]) rfl ⟨_, by rw [HALL.out], by rw [HALL.out]; exact ownGI_nil _ _, (B2.out.setCell (by simp) _).setCell (by simp) _⟩

end Go.Proofs.Ytmcecmnbdcbehaa


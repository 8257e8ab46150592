/- ringing: rows, Rows, LeadHead walked. -/
import Derived.Test.YtplekfgadbjgdaaQTopRinging0
import Derived.Test.YtplekfgadbjgdaaQTopRinging1
import Derived.Test.YtplekfgadbjgdaaQTopRinging2
import Derived.Test.YtplekfgadbjgdaaQTopRinging3
import Derived.Test.YtplekfgadbjgdaaQTopRinging4
import Derived.Test.YtplekfgadbjgdaaQTopRinging7
import Derived.Test.YtplekfgadbjgdaaQTopRinging8
import Derived.Test.YtplekfgadbjgdaaQTopRinging10
import Derived.Test.YtplekfgadbjgdaaQTopRinging13
import Derived.Test.YtplekfgadbjgdaaQTopRinging14
import Derived.Test.YtplekfgadbjgdaaQTopRinging15

namespace Go.Proofs.Ytplekfgadbjgdaa
open Go.RowKit Go.Sl

theorem own_clip {w : World} {B : Nat} {e : TypeId} {v : Value} {cs : List Value} (h : Go.Sl.Own w B e 1 v cs) : Go.Sl.Own w B e 1 (vcut v 0 cs.length cs.length 1) cs ∧ Go.Sl.row (vcut v 0 cs.length cs.length 1) = (if cs.length = 0 then none else Go.Sl.row v) := by
  have hl : vlen v = cs.length := by have := h.2.1; omega
  have hcap := h.1.le
  rw [hl] at hcap
  obtain ⟨a, n, c, rfl, hn, hc, ha⟩ := h.1.cases
  have hnl : cs.length = n := by simpa [vlen_mk] using hl.symm
  rw [vcap_mk] at hcap
  rcases Nat.eq_zero_or_pos cs.length with h0 | h0
  · rw [h0]
    refine ⟨⟨⟨rfl, by simp [vcut, vlen, vcap], by simp [vcut, vcap], fun hp => by simp [vcut, vcap] at hp⟩, by simp [vcut, h0], fun hp => by simp [vcut, vcap] at hp⟩, by simp [Go.Sl.row, vcut, vcap]⟩
  · obtain ⟨hB, ho', cur, hg, hcs, htake⟩ := h.2.2 (by rw [vcap_mk]; omega)
    obtain ⟨g, o, rfl⟩ := ha (by omega)
    have ho'' : o = 0 := ho'
    subst ho''
    have hcut : vcut (.slice (some ⟨g, 0, none⟩) n c) 0 cs.length cs.length 1 = .slice (some ⟨g, 0, none⟩) cs.length cs.length := by
      have hne : ¬ cs.length = 0 := by omega
      simp [vcut, hne, Addr.add_lit]
    rw [hcut]
    rw [vcap_mk] at hcs
    refine ⟨⟨isSl_mk _ _ _ _ (Nat.le_refl _) (by omega), by simp, fun _ => ⟨hB, rfl, cur, hg, by rw [vcap_mk]; omega, htake⟩⟩, ?_⟩
    rw [if_neg (by omega), row_some (v := .slice (some ⟨g, 0, none⟩) cs.length cs.length) (by rw [vcap_mk]; omega), row_some (v := .slice (some ⟨g, 0, none⟩) n c) (by rw [vcap_mk]; omega)]
    rfl
theorem RO.clip {W : World} {B : Nat} {u : Value} {vs : List Value} {xss : List (List Int)} (h : RO W B u vs xss) : RO W B (vcut u 0 xss.length xss.length 1) vs xss := by
  have hc := own_clip h.own
  rw [h.len] at hc
  exact ⟨hc.1, h.len, h.row, h.pos, fun i hi => by rw [hc.2, if_neg (by omega)]; exact h.apart i hi, h.each⟩

theorem clipRows_calls (v : Value) (vs : List Value) (xss : List (List Int)) (B : Nat) (w : World) (h : RO w B v vs xss) :
    Calls Try.prog 62 #[v] w fun e w' => w = w' ∧ ∃ v', e = .returned v' ∧ RO w B v' vs xss := by
  have sv := h.rows.isSl
  have lv := h.rows.len
  have hcap := sv.le
  rw [lv] at hcap
  have H := Lib.hid h; clear h
  go_enter Try.func62, Try.ntmps62
  go_wp2
  go_ret
  exact ⟨rfl, _, rfl, H.out.clip⟩

theorem identity1_calls (m : Nat) (w : World) (hm : m < 7) :
    Calls Try.prog 118 #[.int .i64 ((m : Int) + 1)] w fun e w' => ∃ v, e = .returned v ∧ OwnI w' w.heap.size v (iota (m + 1)) ∧ Below w.heap.size w w' := by
  have h := identity_calls (m + 1) w (by omega)
  rwa [show ((m + 1 : Nat) : Int) = (m : Int) + 1 by omega] at h
/-- The rows of changes. -/
def rowsTo (n : Nat) (cs : List Int) (k : Nat) : List (List Int) := (List.range (k + 1)).map fun j => runL (iota n) (cs.take j)
theorem rowsTo_length (n : Nat) (cs : List Int) (k : Nat) : (rowsTo n cs k).length = k + 1 := by simp [rowsTo]
theorem nthr_rowsTo {n : Nat} {cs : List Int} {k j : Nat} (h : j ≤ k) : nthr (rowsTo n cs k) j = runL (iota n) (cs.take j) := by
  rw [nthr_lt (by rw [rowsTo_length]; omega)]; simp [rowsTo]
theorem rowsTo_succ {n : Nat} {cs : List Int} {k : Nat} (h : k < cs.length) : rowsTo n cs (k + 1) = rowsTo n cs k ++ [ringL (runL (iota n) (cs.take k)) (nth cs k).toNat] := by
  unfold rowsTo
  rw [List.range_succ, List.map_append, List.map_singleton, List.take_succ_eq_append_getElem h, runL_snoc, nth_lt h]
theorem run_len (n : Nat) (cs : List Int) : (runL (iota n) cs).length = n := by rw [runL_length, iota_length]

set_option maxRecDepth 100000 in
set_option maxHeartbeats 2000000 in
theorem rows_calls (m : Nat) (v : Value) (cs : List Int) (w : World) (hv : Ints w v cs) (hm : m < 7) (hc : ∀ c ∈ cs, Chg m c) (hl : cs.length ≤ 5040) :
    Calls Try.prog 129 #[.int .i64 ((m : Int) + 1), v] w fun e w' => ∃ u us, e = .returned u ∧ RO w' w.heap.size u us (rowsTo (m + 1) cs cs.length) ∧ Below w.heap.size w w' := by
  have sv := hv.isSl
  have lv := hv.len
  obtain ⟨L, hL⟩ : ∃ L, cs.length = L := ⟨_, rfl⟩
  rw [hL] at lv hl ⊢
  have HV := Lib.hid hv; have HL := Lib.hid hL; have HC := Lib.hid hc
  clear hv hL hc
  go_enter Try.func129, Try.ntmps129
  go_wp2_with fail
  refine (identity1_calls m _ hm).mono ?_
  rintro e w1 ⟨r, rfl, hr, hb1⟩
  have sr := hr.isSl
  obtain ⟨r1, r2, r3, rfl, -⟩ := sr.cases
  have h1 : RO (w1.alloc (.cells #[.slice r1 r2 r3] 22)) w.heap.size (.slice (some ⟨w1.heap.size, 0, none⟩) 1 1) [.slice r1 r2 r3] [iota (m + 1)] := ro_one hr (by rw [iota_length]; omega) hb1.size
  have hb2 : Below w.heap.size w (w1.alloc (.cells #[.slice r1 r2 r3] 22)) := hb1.alloc hb1.size _
  have HR := Lib.hid h1; have HB2 := Lib.hid hb2
  clear hr hb1 h1 hb2
  go_wp2_with fail
  go_loopw [5, 13] (fun out i wr => ∃ (k : Nat) (us : List Value), k ≤ L ∧ i = .int .i64 k ∧ RO wr w.heap.size out us (rowsTo (m + 1) cs k) ∧ Below w.heap.size w wr) (fun _ i _ => L - (intOf i).toNat)
  case atStart => exact ⟨0, _, Nat.zero_le _, rfl, HR.out, HB2.out⟩
  case round =>
    obtain ⟨k, us, hk, rfl, ho, hbr⟩ := hrel
    have so := ho.rows.isSl
    have lo := ho.rows.len
    rw [rowsTo_length] at lo
    have hbs := hbr.size
    by_cases hlt : k < L
    · have hkc : k < cs.length := by rw [HL.out]; exact hlt
      have cx := (HV.out.below hbr).cell hkc
      obtain ⟨q, hq, hq1, hq2, hq3⟩ := HC.out _ (nth_mem hkc)
      rw [hq] at cx
      have hkr : k < (rowsTo (m + 1) cs k).length := by rw [rowsTo_length]; omega
      have cr := ho.rows.cell hkr
      have rr := ho.rows.row hkr
      rw [nthr_rowsTo (Nat.le_refl _)] at rr
      have sr := rr.isSl
      have hki : ((k : Int) + 1) - 1 = (k : Int) := by omega
      have hnx := rowsTo_succ (n := m + 1) hkc
      rw [hq, Int.toNat_natCast] at hnx
      have HO := Lib.hid ho; have HBR := Lib.hid hbr; have HRR := Lib.hid rr; have HNX := Lib.hid hnx; have HQ := Lib.hid hq
      clear ho hbr rr hnx hq hq1 hq3
      obtain ⟨y, hy⟩ : ∃ y, nthv us k = y := ⟨_, rfl⟩
      rw [hy] at cr sr HRR
      clear hy
      go_wp2_with fail
      refine (ring_calls m y _ q _ HRR.out (run_len _ _) hm hq2).mono ?_
      rintro e w3 ⟨z, rfl, hz, hb3⟩
      have sz := hz.isSl
      obtain ⟨z1, z2, z3, rfl, -⟩ := sz.cases
      have hzl : 0 < (ringL (runL (iota (m + 1)) (cs.take k)) q).length := by rw [ringL_length, run_len]; omega
      have hzr : Go.Sl.row (.slice z1 z2 z3) = some (vblk (.slice z1 z2 z3)) := row_some (by have := hz.ints.cap; omega)
      have hzb := (hz.lt _ hzr).1
      have ho3 := HO.out.below hb3
      have hap : Go.Sl.row u5 ≠ some (vblk (.slice z1 z2 z3)) := fun e => by have := (HO.out.own.lt _ e).2; omega
      have hea : ∀ i, i < (rowsTo (m + 1) cs k).length → vblk (nthv us i) ≠ vblk (.slice z1 z2 z3) := fun i hi e => by have := (HO.out.blk hi).2; omega
      have hb03 := Below.chain HBR.out hb3
      have HZ := Lib.hid (hz.low (show w.heap.size ≤ wr.heap.size from HBR.out.size)); have HB3 := Lib.hid hb3; have HO3 := Lib.hid ho3; have HAP := Lib.hid hap; have HEA := Lib.hid hea; have HB03 := Lib.hid hb03; have HZL := Lib.hid hzl
      clear hz hb3 ho3 hap hea hb03 hzl hzr hzb
      have hbs3 := HB03.out.size
      go_wp2_with (at_builtin; refine wpList_pushRO (v := u5) rfl _ _ rfl rfl rfl HO3.out HZ.out HZL.out hbs3 (by rw [rowsTo_length]; omega) HAP.out HEA.out ?_; intro out2 w4 ho4 hg4; have s4 := ho4.rows.isSl)
      rw [← HNX.out] at ho4
      have hb4 : Below w.heap.size w w4 := Below_of_grown HB03.out hg4 hbs3 (fun b hb => (HO.out.own.lt b hb).1)
      go_roundw
      case rel => exact ⟨k + 1, _, by omega, by go_num, ho4, hb4⟩
      case measure => simp [intOf]; omega
    · have hk' : k = L := by omega
      subst hk'
      have HO := Lib.hid ho; have HBR := Lib.hid hbr; clear ho hbr
      go_wp2_with fail
      refine (clipRows_calls _ us _ _ _ HO.out).mono ?_
      rintro e w3 ⟨rfl, u, rfl, hu⟩
      have HU := Lib.hid hu; clear hu
      go_wp2_with fail
      go_ret
      exact ⟨_, us, rfl, HU.out, HBR.out⟩

set_option maxRecDepth 100000 in
theorem ringRows_calls (m : Nat) (v : Value) (cs : List Int) (w : World) (hv : Ints w v cs) (hm : m < 7) (hc : ∀ c ∈ cs, Chg m c) (hl : cs.length ≤ 5040) :
    Calls Try.prog 91 #[.int .i64 ((m : Int) + 1), v] w fun e w' => ∃ u us, e = .returned (.tuple #[u, .int .i64 0]) ∧ RO w' w.heap.size u us (rowsTo (m + 1) cs cs.length) ∧ Below w.heap.size w w' := by
  have sv := hv.isSl
  have HV := Lib.hid hv; have HC := Lib.hid hc; have HL := Lib.hid hl
  clear hv hc hl
  go_enter Try.func91, Try.ntmps91
  go_wp2_with fail
  refine (rcheck_calls m v cs _ HV.out hm HC.out HL.out).mono ?_
  rintro e w1 ⟨rfl, hb1⟩
  have HB1 := Lib.hid hb1; clear hb1
  go_wp2_with fail
  refine (rows_calls m v cs _ (HV.out.below HB1.out) hm HC.out HL.out).mono ?_
  rintro e w2 ⟨u, us, rfl, hu, hb2⟩
  have su := hu.rows.isSl
  have HU := Lib.hid hu; have HB2 := Lib.hid hb2
  clear hu hb2
  go_wp2_with fail
  go_ret2
  exact ⟨_, us, rfl, HU.out.low HB1.out.size, Below.chain HB1.out HB2.out⟩

set_option maxRecDepth 100000 in
theorem leadHead_calls (m : Nat) (v : Value) (cs : List Int) (w : World) (hv : Ints w v cs) (hm : m < 7) (hc : ∀ c ∈ cs, Chg m c) (hl : cs.length ≤ 5040) :
    Calls Try.prog 43 #[.int .i64 ((m : Int) + 1), v] w fun e w' => ∃ u, e = .returned (.tuple #[u, .int .i64 0]) ∧ OwnI w' w.heap.size u (runL (iota (m + 1)) cs) ∧ Below w.heap.size w w' := by
  have sv := hv.isSl
  obtain ⟨L, hL⟩ : ∃ L, cs.length = L := ⟨_, rfl⟩
  have hl2 := hl
  rw [hL] at hl2
  have HV := Lib.hid hv; have HC := Lib.hid hc; have HL := Lib.hid hl; have HLL := Lib.hid hL
  clear hv hc hl hL
  go_enter Try.func43, Try.ntmps43
  go_wp2_with fail
  refine (ringRows_calls m v cs _ HV.out hm HC.out HL.out).mono ?_
  rintro e w2 ⟨u, us, rfl, hu, hb2⟩
  rw [HLL.out] at hu
  have su := hu.rows.isSl
  have lu := hu.rows.len
  rw [rowsTo_length] at lu
  have hk : L < (rowsTo (m + 1) cs L).length := by rw [rowsTo_length]; omega
  have cu := hu.rows.cell hk
  have ru := hu.row L hk
  rw [nthr_rowsTo (Nat.le_refl _), List.take_of_length_le (by rw [HLL.out]; exact Nat.le_refl _)] at ru
  have sr := ru.isSl
  obtain ⟨y, hy⟩ : ∃ y, nthv us L = y := ⟨_, rfl⟩
  rw [hy] at cu ru sr
  have hki : ((L : Int) + 1) - 1 = (L : Int) := by omega
  have HRU := Lib.hid ru; have HB2 := Lib.hid hb2
  clear hu hb2 ru hk hy
  obtain ⟨u1, u2, u3, rfl, -⟩ := su.cases
  go_wp2_with fail
  go_ret2
  exact ⟨_, rfl, HRU.out, HB2.out⟩
end Go.Proofs.Ytplekfgadbjgdaa


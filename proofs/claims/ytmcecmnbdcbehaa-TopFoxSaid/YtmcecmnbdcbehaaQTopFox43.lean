/- braid.Burau walked: the Burau matrix, each element in memory of its own. -/
import Derived.Test.YtmcecmnbdcbehaaQTopFox0
import Derived.Test.YtmcecmnbdcbehaaQTopFox1
import Derived.Test.YtmcecmnbdcbehaaQTopFox2
import Derived.Test.YtmcecmnbdcbehaaQTopFox3
import Derived.Test.YtmcecmnbdcbehaaQTopFox4
import Derived.Test.YtmcecmnbdcbehaaQTopFox5
import Derived.Test.YtmcecmnbdcbehaaQTopFox6
import Derived.Test.YtmcecmnbdcbehaaQTopFox7
import Derived.Test.YtmcecmnbdcbehaaQTopFox8
import Derived.Test.YtmcecmnbdcbehaaQTopFox9
import Derived.Test.YtmcecmnbdcbehaaQTopFox10
import Derived.Test.YtmcecmnbdcbehaaQTopFox11
import Derived.Test.YtmcecmnbdcbehaaQTopFox14
import Derived.Test.YtmcecmnbdcbehaaQTopFox15
import Derived.Test.YtmcecmnbdcbehaaQTopFox16
import Derived.Test.YtmcecmnbdcbehaaQTopFox17
import Derived.Test.YtmcecmnbdcbehaaQTopFox18
import Derived.Test.YtmcecmnbdcbehaaQTopFox21
import Derived.Test.YtmcecmnbdcbehaaQTopFox41
import Derived.Test.YtmcecmnbdcbehaaQTopFox42

namespace Go.Proofs.Ytmcecmnbdcbehaa
open Go.RowKit Go.Sl

theorem BWord.nword {n : Nat} {xs : List Int} (h : BWord (n : Int) xs) : NWord n xs := fun x hx => by have := h x hx; omega

set_option maxRecDepth 100000 in
set_option maxHeartbeats 2000000 in
theorem burau_calls (n : Nat) (v : Value) (xs : List Int) (w : World) (hv : Ints w v xs) (hn1 : 1 ≤ n) (hn6 : n ≤ 6) (hx : BWord (n : Int) xs) (hl : xs.length ≤ 16) :
    Calls Try.prog 43 #[.int .i64 n, v] w fun e w' => ∃ u vs, e = .returned (.tuple #[u, .int .i64 0]) ∧ PMat w' w.heap.size u vs (burauM n xs) ∧ vs.length = n ∧ Below w.heap.size w w' := by
  have sv := hv.isSl
  have lv := hv.len
  have HC := Lib.hid (bcheck_calls (n : Int) v xs w hv (by omega) (by omega) hx (by omega))
  have HV := Lib.hid hv; have HX := Lib.hid hx.nword
  have l16 : ¬ (xs.length : Int) > 16 := by omega
  clear hv hx
  go_enter Try.func43, Try.ntmps43
  go_wp2_with fail
  refine HC.out.mono ?_
  rintro e w1 ⟨rfl, hb1⟩
  have HB1 := Lib.hid hb1; clear hb1
  go_wp2_with fail
  refine (matrix_calls' n v xs _ (HV.out.below HB1.out) hn1 hn6 HX.out (by omega)).mono ?_
  rintro e w2 ⟨out, vs, rfl, hm, hvs, hb2⟩
  have so := hm.isSl
  have lo := hm.vlen
  rw [hvs] at lo
  have hlow := hm.low' HB1.out.size
  have HM := Lib.hid hlow
  have HB2 := Lib.hid (Below.chain HB1.out hb2)
  obtain ⟨M, hM⟩ : ∃ M, burauM n xs = M := ⟨_, rfl⟩
  have hml : M.length = n := by rw [← hM]; exact burauM_length _ _
  have hmr : ∀ r, r < n → (nthm M r).length = n := fun r hr => by rw [← hM, nthm_burauM _ _ hr, rowM_length]
  have hsm : ∀ r k, r < n → k < n → (nthp (nthm M r) k).c.length ≤ 1000 := fun r k hr hk => by
    rw [← hM, nthm_burauM _ _ hr]
    exact (Sm.of (N := 1099511627776) (entry_sm HX.out (by omega) r hk) (by omega) (by omega) (Nat.le_refl _)).len
  rw [hM] at HM
  have HHM := Lib.hid hM
  have HML := Lib.hid hml; have HMR := Lib.hid hmr; have HSM := Lib.hid hsm
  clear hm hlow hb2 hM hml hmr hsm
  go_wp2_with fail
  go_loopw [26] (fun i wr => ∃ k : Nat, k ≤ n ∧ i = .int .i64 k ∧ PMat wr w.heap.size out vs M ∧ Below w.heap.size w wr) (fun i _ => n - (intOf i).toNat)
  case atStart => exact ⟨0, Nat.zero_le _, rfl, HM.out, HB2.out⟩
  case round =>
    obtain ⟨k, hk, rfl, hm, hb⟩ := hrel
    by_cases hkn : k < n
    · have co := hm.cell (i := k) (by omega)
      obtain ⟨us, hr⟩ := hm.row k (by rw [HML.out]; exact hkn)
      have rl := hr.isSl
      have rv := hr.vlen
      rw [HMR.out k hkn] at rv
      obtain ⟨row, hrw⟩ : ∃ row, nthv vs k = row := ⟨_, rfl⟩
      rw [hrw] at co hr rl rv
      have HMk := Lib.hid hm; have HBk := Lib.hid hb; have HRW := Lib.hid hrw
      clear hm hb hrw hr
      go_wp2_with fail
      go_loopw [32] (fun i wr => ∃ j : Nat, j ≤ n ∧ i = .int .i64 j ∧ PMat wr w.heap.size out vs M ∧ Below w.heap.size w wr) (fun i _ => n - (intOf i).toNat)
      case atStart => exact ⟨0, Nat.zero_le _, rfl, HMk.out, HBk.out⟩
      case round =>
        obtain ⟨j, hj, rfl, hm, hb⟩ := hrel
        by_cases hjn : j < n
        · obtain ⟨us, hr⟩ := hm.row k (by rw [HML.out]; exact hkn)
          rw [HRW.out] at hr
          have hjr : j < (nthm M k).length := by rw [HMR.out k hkn]; exact hjn
          have c0 := hr.read.low hjr
          have c1 := hr.read.c hjr
          have sc := (hr.each j hjr).isSl
          have HE := Lib.hid (hr.each j hjr).ints
          have HMj := Lib.hid hm; have HBj := Lib.hid hb; have HRj := Lib.hid hr
          clear hm hb hr
          go_wp2_with fail
          have hb3 : Below wr.heap.size wr (wr.alloc (.cells #[.int .i64 (nthp (nthm M k) j).low, nthv us j] 27)) := (Below.refl _ _).alloc (Nat.le_refl _) _
          refine (clone_calls _ _ _ (HE.out.below hb3) (by have := HSM.out k j hkn hjn; omega)).mono ?_
          rintro e w4 ⟨y, rfl, hy, hb4⟩
          have sy := hy.isSl
          have hb4' := Below.chain hb3 hb4
          have HY := Lib.hid (hy.low (B' := w.heap.size) (Nat.le_trans HBj.out.size hb3.size))
          have HB4 := Lib.hid hb4'
          clear hb3 hb4 hb4' hy
          go_wp2_with fail
          refine (clip_calls _ _ _ _ HY.out).mono ?_
          rintro e w5 ⟨rfl, z, rfl, hz⟩
          have sz := hz.isSl
          have hr4 := HRj.out.below HB4.out
          have c2 := hr4.read.c hjr
          have f2 := hr4.frozen1 hjr
          have hset := (HMj.out.below HB4.out).setC (i := k) (j := j) (by rw [HML.out]; exact hkn) hjr hz
          rw [HRW.out] at hset
          have hb5 := (HBj.out.trans (HB4.out.mono HBj.out.size)).setCell (p := vat row (j * 2 + 1)) (by rw [vat_block]; exact (HRj.out.blk (by omega)).1) z
          have HSET := Lib.hid hset; have HB5 := Lib.hid hb5
          clear hz hr4 hset hb5 c0 c1
          go_wp2_with fail
          go_roundw
          case rel => exact ⟨j + 1, by omega, by go_num, HSET.out, HB5.out⟩
          case measure => simp [intOf]; omega
        · have HMj := Lib.hid hm; have HBj := Lib.hid hb
          clear hm hb
          go_wp2_with fail
          go_roundw
          case rel => exact ⟨k + 1, by omega, by go_num, HMj.out, HBj.out⟩
          case measure => simp [intOf]; omega
    · have HMk := Lib.hid hm; have HBk := Lib.hid hb
      clear hm hb
      go_wp2_with fail
      go_ret2
      exact ⟨_, vs, rfl, by rw [HHM.out]; exact HMk.out, hvs, HBk.out⟩

end Go.Proofs.Ytmcecmnbdcbehaa


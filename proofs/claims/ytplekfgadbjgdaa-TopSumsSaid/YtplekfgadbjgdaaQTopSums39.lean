/- alexander.Polynomial walked up to the minor: the matrix I - B without its last row and column. -/
import Derived.Test.YtplekfgadbjgdaaQTopSums0
import Derived.Test.YtplekfgadbjgdaaQTopSums1
import Derived.Test.YtplekfgadbjgdaaQTopSums2
import Derived.Test.YtplekfgadbjgdaaQTopSums3
import Derived.Test.YtplekfgadbjgdaaQTopSums4
import Derived.Test.YtplekfgadbjgdaaQTopSums5
import Derived.Test.YtplekfgadbjgdaaQTopSums6
import Derived.Test.YtplekfgadbjgdaaQTopSums7
import Derived.Test.YtplekfgadbjgdaaQTopSums8
import Derived.Test.YtplekfgadbjgdaaQTopSums9
import Derived.Test.YtplekfgadbjgdaaQTopSums10
import Derived.Test.YtplekfgadbjgdaaQTopSums11
import Derived.Test.YtplekfgadbjgdaaQTopSums12
import Derived.Test.YtplekfgadbjgdaaQTopSums13
import Derived.Test.YtplekfgadbjgdaaQTopSums14
import Derived.Test.YtplekfgadbjgdaaQTopSums15
import Derived.Test.YtplekfgadbjgdaaQTopSums19
import Derived.Test.YtplekfgadbjgdaaQTopSums23
import Derived.Test.YtplekfgadbjgdaaQTopSums24
import Derived.Test.YtplekfgadbjgdaaQTopSums26
import Derived.Test.YtplekfgadbjgdaaQTopSums35
import Derived.Test.YtplekfgadbjgdaaQTopSums36
import Derived.Test.YtplekfgadbjgdaaQTopSums37
import Derived.Deep.RegionHeld3
import Derived.Deep.RegionWith
import Derived.RangeFuncNested
import Derived.RangeFuncBound
import Derived.RangeFuncCalls
import Derived.RangeFuncLeaves
import Derived.RangeFuncBox
import Derived.Shelf.Abstract
import Derived.Shelf.RegionOpen
import Derived.OwnWalkIn
import Derived.TacticsInMore
import Derived.LoopNIn
import Derived.LoopIn
import Derived.Maps.AppendAt
import Derived.Deep.RegionLaw
namespace Go.Proofs.Ytplekfgadbjgdaa
open Go.RowKit Go.Sl

def oneP (b : Bool) : LP := if b then pterm 1 0 else pzero
/-- Row i of the cut I - B. -/
def alexR (n : Nat) (xs : List Int) (i : Nat) : List LP := (List.range (n - 1)).map fun k => padd (oneP (decide (i = k))) (nthp (rowM n xs i) k) (-1)
def alexM (n : Nat) (xs : List Int) : List (List LP) := (List.range (n - 1)).map fun i => alexR n xs i
def alexMid (n : Nat) (xs : List Int) (i : Nat) : List (List LP) := (List.range (n - 1)).map fun r => if r < i then alexR n xs r else rowM n xs r
def alexRow (n : Nat) (xs : List Int) (i k : Nat) : List LP := (List.range (n - 1)).map fun c => if c < k then padd (oneP (decide (i = c))) (nthp (rowM n xs i) c) (-1) else nthp (rowM n xs i) c
theorem mid_start (n : Nat) (xs : List Int) : alexMid n xs 0 = (burauM n xs).take (n - 1) := by
  refine List.ext_getElem (by simp [alexMid, burauM_length]) fun i h1 h2 => ?_
  have hi : i < n - 1 := by simpa [alexMid] using h1
  have h3 := nthm_burauM n xs (i := i) (by omega)
  rw [nthm_lt (by rw [burauM_length]; omega)] at h3
  simp [alexMid, h3]
theorem mid_end (n : Nat) (xs : List Int) : alexMid n xs (n - 1) = alexM n xs := by
  unfold alexMid alexM
  exact List.map_congr_left fun r hr => by rw [if_pos (List.mem_range.1 hr)]
theorem mid_length (n : Nat) (xs : List Int) (i : Nat) : (alexMid n xs i).length = n - 1 := by simp [alexMid]
theorem nthm_mid {n : Nat} {xs : List Int} {i r : Nat} (h : r < n - 1) : nthm (alexMid n xs i) r = if r < i then alexR n xs r else rowM n xs r := by
  rw [nthm_lt (by rw [mid_length]; exact h)]; simp [alexMid]
theorem alexRow_length (n : Nat) (xs : List Int) (i k : Nat) : (alexRow n xs i k).length = n - 1 := by simp [alexRow]
theorem row_start (n : Nat) (xs : List Int) (i : Nat) : (rowM n xs i).take (n - 1) = alexRow n xs i 0 := by
  refine List.ext_getElem (by simp [alexRow, rowM_length]) fun k h1 h2 => ?_
  have hk : k < n - 1 := by simpa [alexRow] using h2
  have := nthp_lt (ps := rowM n xs i) (i := k) (by rw [rowM_length]; omega)
  simp [alexRow, this]
theorem nthp_row {n : Nat} {xs : List Int} {i k c : Nat} (h : c < n - 1) : nthp (alexRow n xs i k) c = if c < k then padd (oneP (decide (i = c))) (nthp (rowM n xs i) c) (-1) else nthp (rowM n xs i) c := by
  rw [nthp_lt (by rw [alexRow_length]; exact h)]; simp [alexRow]
theorem row_step {n : Nat} {xs : List Int} {i k : Nat} : (alexRow n xs i k).set k (padd (oneP (decide (i = k))) (nthp (rowM n xs i) k) (-1)) = alexRow n xs i (k + 1) := by
  refine List.ext_getElem (by simp [alexRow]) fun c h1 h2 => ?_
  rw [List.getElem_set]
  by_cases e : k = c
  · subst e; simp [alexRow]
  · rw [if_neg e]
    simp only [alexRow, List.getElem_map, List.getElem_range]
    by_cases h : c < k
    · rw [if_pos h, if_pos (by omega)]
    · rw [if_neg h, if_neg (by omega)]
theorem row_end (n : Nat) (xs : List Int) (i : Nat) : alexRow n xs i (n - 1) = alexR n xs i := by
  unfold alexRow alexR
  exact List.map_congr_left fun c hc => by rw [if_pos (List.mem_range.1 hc)]
theorem mid_step {n : Nat} {xs : List Int} {i : Nat} : (alexMid n xs i).set i (alexR n xs i) = alexMid n xs (i + 1) := by
  refine List.ext_getElem (by simp [alexMid]) fun r h1 h2 => ?_
  rw [List.getElem_set]
  by_cases e : i = r
  · subst e; simp [alexMid]
  · rw [if_neg e]
    simp only [alexMid, List.getElem_map, List.getElem_range]
    by_cases h : r < i
    · rw [if_pos h, if_pos (by omega)]
    · rw [if_neg h, if_neg (by omega)]
theorem sqM_alexM (n : Nat) (xs : List Int) : SqM (n - 1) (alexM n xs) := by
  refine ⟨by simp [alexM], fun i hi => ?_⟩
  rw [nthm_lt (by simpa [alexM] using hi)]; simp [alexM, alexR]
theorem alexM_length (n : Nat) (xs : List Int) : (alexM n xs).length = n - 1 := by simp [alexM]

set_option maxRecDepth 100000 in
set_option maxHeartbeats 8000000 in
theorem alex_calls (n : Nat) (v : Value) (xs : List Int) (w : World) (hv : Ints w v xs) (h1 : 2 ≤ n) (h2 : n ≤ 6) (hx : BWord (n : Int) xs) (hl : xs.length ≤ 20) (hpf : ∀ i k, i < n → k < n → PFit (nthp (rowM n xs i) k) ∧ n1 (nthp (rowM n xs i) k).c ≤ 100000000000000) (hfit : ExpFit (n - 1) (alexM n xs)) (hok : POk (expandL (n - 1) (alexM n xs))) :
    Calls Try.prog 30 #[.int .i64 n, v] w fun e w' => ∃ u, e = .returned (.tuple #[.agg #[.int .i64 (pnorm (expandL (n - 1) (alexM n xs))).low, u], .int .i64 0]) ∧ OwnI w' w.heap.size u (pnorm (expandL (n - 1) (alexM n xs))).c ∧ Below w.heap.size w w' := by
  have sv := hv.isSl
  have lv := hv.len
  obtain ⟨W1, hW1⟩ : ∃ W1, W1 = w.alloc (.cells #[.int .i64 0, .slice none 0 0] 40) := ⟨_, rfl⟩
  have b1 : Below w.heap.size w W1 := by rw [hW1]; exact (Below.refl _ _).alloc (Nat.le_refl _) _
  have p1 : Pair W1 w.heap.size 40 (.int .i64 0) (.slice none 0 0) := by rw [hW1]; exact pair_new _ _ _ _
  have z1 : W1.heap.size = w.heap.size + 1 := by rw [hW1]; simp
  have HCK := Lib.hid (bcheck_calls n v xs W1 (hv.below b1) (by omega) (by omega) hx (by omega))
  have HMC := Lib.hid (fun W (hb : Below w.heap.size w W) => matrix_calls' n v xs W (hv.below hb) (by omega) h2 (show NWord n xs from fun x h => by have := hx x h; omega) hl)
  have HPF := Lib.hid hpf; have HFIT := Lib.hid hfit; have HOK := Lib.hid hok
  have HW1 := Lib.hid hW1.symm; have B1 := Lib.hid b1; have P1 := Lib.hid p1
  have k20 : ¬ (xs.length : Int) > 20 := by omega
  obtain ⟨m, hm⟩ : ∃ m, n - 1 = m := ⟨_, rfl⟩
  have hmi : (n : Int) - 1 = (m : Int) := by omega
  have hm1 : 1 ≤ m := by omega
  have hmn : m + 1 = n := by omega
  have HM := Lib.hid hm
  obtain ⟨D, hD⟩ : ∃ D, expandL (n - 1) (alexM n xs) = D := ⟨_, rfl⟩
  rw [hD] at HOK ⊢
  have HDD := Lib.hid hD
  clear hD
  clear hv hx hpf hfit hok hW1 b1 p1 hm
  go_enter Try.func30, Try.ntmps30
  go_wp2_with fail
  rw [HW1.out]
  refine HCK.out.mono ?_
  rintro e w1 ⟨rfl, hb1⟩
  have HB1 := Lib.hid (Below.chain B1.out hb1)
  have P2 := Lib.hid (P1.out.below hb1)
  have z2 : w.heap.size + 1 ≤ w1.heap.size := by have := hb1.size; omega
  clear hb1 HCK P1 B1 HW1
  go_wp2_with fail
  refine (HMC.out _ HB1.out).mono ?_
  rintro e w2 ⟨u0, vs0, rfl, hpm, hvl, hb2⟩
  have su0 := hpm.isSl
  have lu0 := hpm.vlen
  rw [hvl] at lu0
  have hcap := su0.le
  have hmc : m ≤ vcap u0 := by omega
  have hhead := hpm.headRows (k := m) (by rw [burauM_length]; omega)
  rw [← HM.out, ← mid_start, HM.out] at hhead
  obtain ⟨vs, hvs⟩ : ∃ vs, vs0.take m = vs := ⟨_, rfl⟩
  have hvl2 : vs.length = m := by rw [← hvs, List.length_take, hvl]; omega
  rw [hvs] at hhead
  have hhl := hhead.low' z2
  obtain ⟨u, hu⟩ : ∃ u, vcut u0 0 m (vcap u0) 1 = u := ⟨_, rfl⟩
  have sc0 := hhl.isSl
  have lc0 : vlen (vcut u0 0 m (vcap u0) 1) = m := by rw [vlen_cut]; omega
  rw [hu] at hhl
  have su := hhl.isSl
  have lu := hhl.vlen
  rw [hvl2] at lu
  have HH := Lib.hid hhl; have HU := Lib.hid hu
  have P3 := Lib.hid (P2.out.below hb2)
  have HB2 := Lib.hid (Below.chain HB1.out hb2)
  have z3 : w.heap.size + 1 ≤ w2.heap.size := by have := hb2.size; omega
  have HVL := Lib.hid hvl2
  clear hpm hhead hhl hb2 hvs hvl hvl2 HMC P2 HB1 hu
  go_wp2_with fail
  rw [HU.out]
  clear sc0 lc0
  go_loopw [31] (fun q wr => ∃ (i : Nat) (vs : List Value), i ≤ m ∧ q = .int .i64 i ∧ PMat wr (w.heap.size + 1) u vs (alexMid n xs i) ∧ vs.length = m ∧ Pair wr w.heap.size 40 (.int .i64 0) (.slice none 0 0) ∧ Below w.heap.size w wr ∧ w.heap.size + 1 ≤ wr.heap.size) (fun q _ => m - (intOf q).toNat)
  case atStart => exact ⟨0, vs, Nat.zero_le _, rfl, HH.out, HVL.out, P3.out, HB2.out, z3⟩
  case round =>
    rename World => Wr
    obtain ⟨i, ws, hi, rfl, hpm, hwl, hp, hb, hz⟩ := hrel
    have hml : (alexMid n xs i).length = m := by rw [mid_length, HM.out]
    by_cases hltm : i < m
    · have hin : i < n - 1 := by rw [HM.out]; exact hltm
      have hnm : nthm (alexMid n xs i) i = rowM n xs i := by rw [nthm_mid hin, if_neg (by omega)]
      have hrl := rowM_length n xs i
      have ci := hpm.cell (i := i) (by rw [hwl]; exact hltm)
      have fi := hpm.frozen (i := i) (by rw [hwl]; exact hltm)
      obtain ⟨us, hrow⟩ := hpm.row i (by rw [hml]; exact hltm)
      have sr := hrow.isSl
      have lr := hrow.vlen
      rw [hnm, hrl] at lr
      obtain ⟨r, hr⟩ : ∃ r, nthv ws i = r := ⟨_, rfl⟩
      have hcut := hpm.cutRow (i := i) (k := m) (by rw [hml]; exact hltm) (by rw [hnm, hrl]; omega) (by omega)
      rw [hr] at ci sr lr hcut
      have hcr := sr.le
      have hmr : m ≤ vcap r := by omega
      have sr2 : IsSl (vcut r 0 m (vcap r) 2) := isSl_cut sr (by omega) (by omega) (Nat.le_refl _)
      have lr2 : vlen (vcut r 0 m (vcap r) 2) = m := by rw [vlen_cut]; omega
      have hst := row_start n xs i
      rw [HM.out] at hst
      rw [hnm, hst] at hcut
      have hp2 : Pair (Wr.setCell (vat u i) (vcut r 0 m (vcap r) 2)) w.heap.size 40 (.int .i64 0) (.slice none 0 0) := by
        have hge := Go.Sl.Own.ge hpm.own (j := i) (by rw [hwl]; exact hltm)
        exact (Below.heap_setCell _ _ _ w.heap.size (fun e => by rw [vat_block] at hge e; omega)).trans hp
      have hb2 := hb.setCell (p := vat u i) (by have hge := Go.Sl.Own.ge hpm.own (j := i) (by rw [hwl]; exact hltm); omega) (vcut r 0 m (vcap r) 2)
      have HCUT := Lib.hid hcut; have HP2 := Lib.hid hp2; have HB3 := Lib.hid hb2; have HWL := Lib.hid hwl; have HML := Lib.hid hml; have HRR := Lib.hid hr
      clear hpm hp hb hrow hnm hrl hst hcut hp2 hb2 hwl hml hr
      go_wp2_with fail
      generalize hW3 : Wr.setCell (vat u i) (vcut r 0 m (vcap r) 2) = W3 at HCUT HP2 HB3 ⊢
      generalize hr2 : vcut r 0 m (vcap r) 2 = r2 at HCUT sr2 lr2 ⊢
      have hz4 : w.heap.size + 1 ≤ W3.heap.size := by rw [← hW3]; simpa using hz
      have hvi : nthv (ws.set i r2) i = r2 := by rw [nthv_set (by rw [HWL.out]; exact hltm), if_pos rfl]
      have hvl : (ws.set i r2).length = m := by rw [List.length_set]; exact HWL.out
      have hri : ∀ k, nthm ((alexMid n xs i).set i (alexRow n xs i k)) i = alexRow n xs i k := fun k => by rw [nthm_set (by rw [HML.out]; exact hltm), if_pos rfl]
      obtain ⟨vs2, hvs2⟩ : ∃ q, ws.set i r2 = q := ⟨_, rfl⟩
      rw [hvs2] at HCUT hvi hvl
      have HVI := Lib.hid hvi; have HVL2 := Lib.hid hvl; have HRI := Lib.hid hri
      clear hW3 hr2 hvi hvl hri hvs2 ci fi
      go_loopw [49] (fun q wr => ∃ k : Nat, k ≤ m ∧ q = .int .i64 k ∧ PMat wr (w.heap.size + 1) u vs2 ((alexMid n xs i).set i (alexRow n xs i k)) ∧ Pair wr w.heap.size 40 (.int .i64 0) (.slice none 0 0) ∧ Below w.heap.size w wr ∧ w.heap.size + 1 ≤ wr.heap.size) (fun q _ => m - (intOf q).toNat)
      case atStart => exact ⟨0, Nat.zero_le _, rfl, HCUT.out, HP2.out, HB3.out, hz4⟩
      case round =>
        rename World => Wi
        obtain ⟨k, hk, rfl, hpm, hp, hb, hz5⟩ := hrel
        by_cases hkm : k < m
        · have hkn : k < n - 1 := by rw [HM.out]; exact hkm
          obtain ⟨us2, hrow⟩ := hpm.row i (by rw [List.length_set, HML.out]; exact hltm)
          rw [HVI.out, HRI.out] at hrow
          have hkl : k < (alexRow n xs i k).length := by rw [alexRow_length, HM.out]; exact hkm
          have e0 := hrow.read.low hkl
          have e1 := hrow.read.c hkl
          have hea := (hrow.each k hkl).ints
          have hpk : nthp (alexRow n xs i k) k = nthp (rowM n xs i) k := by rw [nthp_row hkn, if_neg (by omega)]
          rw [hpk] at e0 hea
          have hpf := HPF.out i k (by omega) (by omega)
          obtain ⟨p, hp0⟩ : ∃ p, nthp (rowM n xs i) k = p := ⟨_, rfl⟩
          have hnew : (alexRow n xs i k).set k (padd (oneP (decide (i = k))) p (-1)) = alexRow n xs i (k + 1) := by rw [← hp0]; exact row_step
          rw [hp0] at e0 hea hpf
          obtain ⟨cs, hcs⟩ : ∃ c, nthv us2 k = c := ⟨_, rfl⟩
          rw [hcs] at e1 hea
          have scs := hea.isSl
          have hvb : vblk r2 < Wi.heap.size := (hrow.blk (by rw [alexRow_length, HM.out]; omega)).2
          have HROWI := Lib.hid (HRI.out k)
          have HNEW0 := Lib.hid hnew; have HPM := Lib.hid hpm; have HPB := Lib.hid hp; have HBB := Lib.hid hb; have HEA := Lib.hid hea; have HPFK := Lib.hid hpf
          clear hpm hp hb hrow hkl hpk hp0 hnew hcs hea hpf
          by_cases hik : i = k
          · subst hik
            have hone : oneP (decide (i = i)) = pterm 1 0 := by rw [decide_eq_true rfl]; rfl
            have HNEW := Lib.hid (by have := HNEW0.out; rw [hone] at this; exact this : (alexRow n xs i i).set i (padd (pterm 1 0) p (-1)) = alexRow n xs i (i + 1))
            have hal : Below Wi.heap.size Wi ((Wi.alloc (.cells #[.int .i64 p.low, cs] 40)).alloc (.cells #[.int .i64 0, .slice none 0 0] 40)) := ((Below.refl _ _).alloc (Nat.le_refl _) _).alloc (by simp) _
            have q10 := (pair_new Wi 40 (.int .i64 p.low) cs).below ((Below.refl _ _).alloc (Nat.le_refl _) (.cells #[.int .i64 0, .slice none 0 0] 40))
            have q11 : Pair ((Wi.alloc (.cells #[.int .i64 p.low, cs] 40)).alloc (.cells #[.int .i64 0, .slice none 0 0] 40)) (Wi.heap.size + 1) 40 (.int .i64 0) (.slice none 0 0) := by
              have := pair_new (Wi.alloc (.cells #[.int .i64 p.low, cs] 40)) 40 (.int .i64 0) (.slice none 0 0)
              rw [show (Wi.alloc (.cells #[.int .i64 p.low, cs] 40)).heap.size = Wi.heap.size + 1 by simp] at this
              exact this
            have HAL := Lib.hid hal; have HQ10a := Lib.hid q10; have HQ11a := Lib.hid q11
            clear hal q10 q11 hone
            go_wp2_with fail
            refine (term_calls 1 0 _ (by decide) (by decide)).mono ?_
            rintro e u5 ⟨oc0, rfl, hoc, hb5⟩
            obtain ⟨one, hone⟩ : ∃ one, one = pterm 1 0 := ⟨_, rfl⟩
            rw [← hone] at hoc HNEW ⊢
            have soc := hoc.isSl
            obtain ⟨o1, o2, o3, rfl, -⟩ := soc.cases
            have x10 := HQ10a.out.below hb5; have x11 := HQ11a.out.below hb5
            have xx0 := x11.cell0; have xx1 := x11.cell1; have xf0 := x11.free0; have xf1 := x11.free1
            have hal := Below.chain HAL.out hb5
            have hzz : Wi.heap.size + 2 ≤ ((Wi.alloc (.cells #[.int .i64 p.low, cs] 40)).alloc (.cells #[.int .i64 0, .slice none 0 0] 40)).heap.size := by simp
            have q11 := x11.set (.int .i64 one.low) (.slice o1 o2 o3)
            have q10 : Pair ((u5.setCell ⟨Wi.heap.size + 1, 0, none⟩ (.int .i64 one.low)).setCell ⟨Wi.heap.size + 1, 1, none⟩ (.slice o1 o2 o3)) Wi.heap.size 40 (.int .i64 p.low) cs := (x10.other (by omega) _ _).other (by omega) _ _
            have io : Ints ((u5.setCell ⟨Wi.heap.size + 1, 0, none⟩ (.int .i64 one.low)).setCell ⟨Wi.heap.size + 1, 1, none⟩ (.slice o1 o2 o3)) (.slice o1 o2 o3) one.c :=
              ((hoc.setOther (p := ⟨Wi.heap.size + 1, 0, none⟩) (fun c hc e => by have := (hoc.lt c hc).1; simp only at e; omega) _).setOther (p := ⟨Wi.heap.size + 1, 1, none⟩) (fun c hc e => by have := (hoc.lt c hc).1; simp only at e; omega) _).ints
            replace hal := (hal.setCell (p := ⟨Wi.heap.size + 1, 0, none⟩) (by simp) (.int .i64 one.low)).setCell (p := ⟨Wi.heap.size + 1, 1, none⟩) (by simp) (.slice o1 o2 o3)
            have hz6 : w.heap.size + 1 ≤ ((u5.setCell ⟨Wi.heap.size + 1, 0, none⟩ (.int .i64 one.low)).setCell ⟨Wi.heap.size + 1, 1, none⟩ (.slice o1 o2 o3)).heap.size := Nat.le_trans hz5 hal.size
            have HF1 := Lib.hid (show PFit one by rw [hone]; exact ⟨by decide, by decide⟩)
            have HF3 := Lib.hid (show n1 one.c + 1000 * n1 p.c ≤ 4000000000000000000 by have h1 := n1_pterm 1 0; rw [← hone] at h1; have := HPFK.out.2; simp at h1; omega)
            have HALb := Lib.hid hal; have HQ10b := Lib.hid q10; have HQ11b := Lib.hid q11; have HIOb := Lib.hid io
            clear hoc hb5 x10 x11 hal q11 q10 io hone HAL HQ10a HQ11a soc hzz
            go_wp2_with fail
            have hal := HALb.out; have q10 := HQ10b.out; have q11 := HQ11b.out; have io := HIOb.out
            obtain ⟨oc, hoc⟩ : ∃ oc : Value, oc = .slice o1 o2 o3 := ⟨_, rfl⟩
            generalize hW5 : (u5.setCell ⟨Wi.heap.size + 1, 0, none⟩ (.int .i64 one.low)).setCell ⟨Wi.heap.size + 1, 1, none⟩ (.slice o1 o2 o3) = W5 at hal q10 q11 io hz6 ⊢
            rw [← hoc] at q11 io
            have soc := io.isSl
            clear hoc HALb HQ10b HQ11b HIOb hW5 xx0 xx1 xf0 xf1
            have HF2 := Lib.hid HPFK.out.1
            have Q10 := Lib.hid q10; have Q11 := Lib.hid q11; have IO := Lib.hid io; have IP := Lib.hid (HEA.out.below hal); have HPM5 := Lib.hid (HPM.out.below hal); have QR := Lib.hid (HPB.out.below hal); have HB5 := Lib.hid (Below.chain HBB.out hal)
            have HVB := Lib.hid (show vblk r2 < Wi.heap.size by omega)
            have hz5' := hz6
            clear q10 q11 io hal hz5 e0 e1
            have dr : Below W5.heap.size W5 W5.drew := (Below.refl _ _).drew
            have HDR := Lib.hid dr
            have hcu5 := HPM5.out.cell (i := i) (by rw [HVL2.out]; exact hltm)
            rw [HVI.out] at hcu5
            have HST := Lib.hid (show W5.drew.cell? (vat u i) = some r2 ∧ W5.drew.cell? ⟨Wi.heap.size + 1, 0, none⟩ = some (.int .i64 one.low) ∧ W5.drew.cell? ⟨Wi.heap.size + 1, 1, none⟩ = some oc ∧ W5.drew.cell? ⟨Wi.heap.size, 0, none⟩ = some (.int .i64 p.low) ∧ W5.drew.cell? ⟨Wi.heap.size, 1, none⟩ = some cs from ⟨hcu5, Q11.out.cell0, Q11.out.cell1, Q10.out.cell0, Q10.out.cell1⟩)
            have HSZ := Lib.hid (show w.heap.size + 1 ≤ W5.drew.heap.size from hz5')
            clear dr hcu5
            refine wp_region_held_drew (S := fun W => W.cell? (vat u i) = some r2 ∧ W.cell? ⟨Wi.heap.size + 1, 0, none⟩ = some (.int .i64 one.low) ∧ W.cell? ⟨Wi.heap.size + 1, 1, none⟩ = some oc ∧ W.cell? ⟨Wi.heap.size, 0, none⟩ = some (.int .i64 p.low) ∧ W.cell? ⟨Wi.heap.size, 1, none⟩ = some cs) (by kernel_rfl) (HST.out) (fun hHeld => ?_)
            refine' wpAnyH_take (i := 0) (oi := ?oiq1) (v := ?vq1) ?haq1 (by kernel_rfl) ?hfq1 ?hrq1 ?hQq1 (Or.inl ⟨?hwq1, ?hyq1⟩) (by assumption) ?restq1
            case haq1 => (simp only [List.getElem?_toArray, List.getElem?_cons_zero]; exact rfl)
            case hQq1 => exact fun _ _ _ h => h
            case hfq1 => kernel_rfl
            case hrq1 => kernel_rfl
            case hwq1 => rfl
            case hyq1 => (intro w hSw; (try dsimp only at hSw); obtain ⟨e1, e2, e3, e4, e5⟩ := hSw; go_simp; (try with_reducible rfl))
            try simp only [Act.put, List.setIfInBounds_toArray, List.set_cons_zero, List.set_cons_succ]
            refine' wpAnyH_take (i := 1) (oi := ?oiq2) (v := ?vq2) ?haq2 (by kernel_rfl) ?hfq2 ?hrq2 ?hQq2 (Or.inl ⟨?hwq2, ?hyq2⟩) (by assumption) ?restq2
            case haq2 => (simp only [List.getElem?_toArray, List.getElem?_cons_succ, List.getElem?_cons_zero]; exact rfl)
            case hQq2 => exact fun _ _ _ h => h
            case hfq2 => kernel_rfl
            case hrq2 => kernel_rfl
            case hwq2 => rfl
            case hyq2 => (intro w hSw; (try dsimp only at hSw); obtain ⟨e1, e2, e3, e4, e5⟩ := hSw; go_simp; (try with_reducible rfl))
            try simp only [Act.put, List.setIfInBounds_toArray, List.set_cons_zero, List.set_cons_succ]
            refine' wpAnyH_take (i := 2) (oi := ?oiq3) (v := ?vq3) ?haq3 (by kernel_rfl) ?hfq3 ?hrq3 ?hQq3 (Or.inl ⟨?hwq3, ?hyq3⟩) (by assumption) ?restq3
            case haq3 => (simp only [List.getElem?_toArray, List.getElem?_cons_succ, List.getElem?_cons_zero]; exact rfl)
            case hQq3 => exact fun _ _ _ h => h
            case hfq3 => kernel_rfl
            case hrq3 => kernel_rfl
            case hwq3 => rfl
            case hyq3 => (intro w hSw; (try dsimp only at hSw); obtain ⟨e1, e2, e3, e4, e5⟩ := hSw; go_simp; (try with_reducible rfl))
            try simp only [Act.put, List.setIfInBounds_toArray, List.set_cons_zero, List.set_cons_succ]
            refine' wpAnyH_take (i := 3) (oi := ?oiq4) (v := ?vq4) ?haq4 (by kernel_rfl) ?hfq4 ?hrq4 ?hQq4 (Or.inl ⟨?hwq4, ?hyq4⟩) (by assumption) ?restq4
            case haq4 => (simp only [List.getElem?_toArray, List.getElem?_cons_succ, List.getElem?_cons_zero]; exact rfl)
            case hQq4 => exact fun _ _ _ h => h
            case hfq4 => kernel_rfl
            case hrq4 => kernel_rfl
            case hwq4 => rfl
            case hyq4 => (intro w hSw; (try dsimp only at hSw); obtain ⟨e1, e2, e3, e4, e5⟩ := hSw; go_simp; (try with_reducible rfl))
            try simp only [Act.put, List.setIfInBounds_toArray, List.set_cons_zero, List.set_cons_succ]
            refine' wpAnyH_take (i := 4) (oi := ?oiq5) (v := ?vq5) ?haq5 (by kernel_rfl) ?hfq5 ?hrq5 ?hQq5 (Or.inl ⟨?hwq5, ?hyq5⟩) (by assumption) ?restq5
            case haq5 => (simp only [List.getElem?_toArray, List.getElem?_cons_succ, List.getElem?_cons_zero]; exact rfl)
            case hQq5 => exact fun _ _ _ h => h
            case hfq5 => kernel_rfl
            case hrq5 => kernel_rfl
            case hwq5 => rfl
            case hyq5 => (intro w hSw; (try dsimp only at hSw); obtain ⟨e1, e2, e3, e4, e5⟩ := hSw; go_simp; (try with_reducible rfl))
            try simp only [Act.put, List.setIfInBounds_toArray, List.set_cons_zero, List.set_cons_succ]
            refine' wpAnyH_take (i := 5) (oi := ?oiq6) (v := ?vq6) ?haq6 (by kernel_rfl) ?hfq6 ?hrq6 ?hQq6 (Or.inl ⟨?hwq6, ?hyq6⟩) (by assumption) ?restq6
            case haq6 => (simp only [List.getElem?_toArray, List.getElem?_cons_succ, List.getElem?_cons_zero]; exact rfl)
            case hQq6 => exact fun _ _ _ h => h
            case hfq6 => kernel_rfl
            case hrq6 => kernel_rfl
            case hwq6 => rfl
            case hyq6 => (intro w hSw; (try dsimp only at hSw); obtain ⟨e1, e2, e3, e4, e5⟩ := hSw; go_simp; (try with_reducible rfl))
            try simp only [Act.put, List.setIfInBounds_toArray, List.set_cons_zero, List.set_cons_succ]
            refine' wpAnyH_take (i := 6) (oi := ?oiq7) (v := ?vq7) ?haq7 (by kernel_rfl) ?hfq7 ?hrq7 ?hQq7 (Or.inl ⟨?hwq7, ?hyq7⟩) (by assumption) ?restq7
            case haq7 => (simp only [List.getElem?_toArray, List.getElem?_cons_succ, List.getElem?_cons_zero]; exact rfl)
            case hQq7 => exact fun _ _ _ h => h
            case hfq7 => kernel_rfl
            case hrq7 => kernel_rfl
            case hwq7 => rfl
            case hyq7 => (intro w hSw; (try dsimp only at hSw); obtain ⟨e1, e2, e3, e4, e5⟩ := hSw; go_simp; (try with_reducible rfl))
            try simp only [Act.put, List.setIfInBounds_toArray, List.set_cons_zero, List.set_cons_succ]
            refine wpAnyH_ready (rs := [7]) (by kernel_rfl) (by simp) ?_
            refine' AllReadyH.cons (o := ?oiq8) ?haq8 (fun K hK => ?stepq8) AllReadyH.nil
            case haq8 => (simp only [List.getElem?_toArray, List.getElem?_cons_succ, List.getElem?_cons_zero]; exact rfl)
            go_simp
            go_at_call 77
            refine (plus_calls one p (-1) oc cs _ (IO.out.below HDR.out) (IP.out.below HDR.out) HF1.out.1 HF2.out.1 HF1.out.2 HF2.out.2 (by decide) HF3.out).mono ?_
            rintro e w6 ⟨nc, rfl, hnc, hb6⟩
            have snc := hnc.isSl
            obtain ⟨y1, y2, y3, rfl, -⟩ := snc.cases
            have hb6' := Below.chain HDR.out hb6
            have pm6 := HPM5.out.below hb6'
            have HQ10 := Lib.hid (Q10.out.below hb6'); have HQ11 := Lib.hid (Q11.out.below hb6'); have HQR := Lib.hid (QR.out.below hb6'); have HB6 := Lib.hid (HB5.out.trans (hb6'.mono HB5.out.size))
            have hlk : i < (nthm ((alexMid n xs i).set i (alexRow n xs i i)) i).length := by rw [HROWI.out, alexRow_length, HM.out]; exact hkm
            have hset := pm6.set (i := i) (j := i) (q := padd one p (-1)) (u := .slice y1 y2 y3) (by rw [List.length_set, HML.out]; exact hltm) hlk (OwnI.low hnc HSZ.out)
            rw [HROWI.out, HNEW.out, List.set_set] at hset
            obtain ⟨us6, hr6⟩ := pm6.row i (by rw [List.length_set, HML.out]; exact hltm)
            rw [HROWI.out] at hr6
            have hcu := hset.cell (i := i) (by rw [HVL2.out]; exact hltm)
            have hcu6 := pm6.cell (i := i) (by rw [HVL2.out]; exact hltm)
            rw [HVI.out] at hset hr6 hcu hcu6
            have hkl : i < (alexRow n xs i i).length := by rw [alexRow_length, HM.out]; exact hkm
            have rr0 := hr6.read.low hkl
            have rr1 := hr6.read.c hkl
            have rf0 := hr6.frozen0 hkl
            have rf1 := hr6.frozen1 hkl
            have rr1' : ∀ x, (w6.setCell (vat r2 (i * 2)) x).cell? (vat r2 (i * 2 + 1)) = some (nthv us6 i) := fun x => by rw [cell_other _ _ (by omega)]; exact rr1
            have rf1' : ∀ x, (w6.setCell (vat r2 (i * 2)) x).frozen? (vat r2 (i * 2 + 1)) = false := fun x => by rw [frozen_other]; exact rf1
            have rblk := hr6.blk (by rw [alexRow_length, HM.out]; omega)
            have hne10 : vblk r2 ≠ Wi.heap.size := by have := HVB.out; omega
            have hne11 : vblk r2 ≠ Wi.heap.size + 1 := by have := HVB.out; omega
            have KEEP6 := Lib.hid (show w6.cell? (vat u i) = some r2 ∧ w6.cell? ⟨Wi.heap.size + 1, 0, none⟩ = some (.int .i64 one.low) ∧ w6.cell? ⟨Wi.heap.size + 1, 1, none⟩ = some oc ∧ w6.cell? ⟨Wi.heap.size, 0, none⟩ = some (.int .i64 p.low) ∧ w6.cell? ⟨Wi.heap.size, 1, none⟩ = some cs from ⟨hcu6, HQ11.out.cell0, HQ11.out.cell1, HQ10.out.cell0, HQ10.out.cell1⟩)
            have far : ∀ (c : Nat) (a b : Value), vblk r2 ≠ c → Pair w6 c 40 a b → Pair ((w6.setCell (vat r2 (i * 2)) (.int .i64 (padd one p (-1)).low)).setCell (vat r2 (i * 2 + 1)) (.slice y1 y2 y3)) c 40 a b := fun c a b hc h =>
              (Below.heap_setCell _ _ _ c (by rw [vat_block]; exact fun e => hc e.symm)).trans ((Below.heap_setCell _ _ _ c (by rw [vat_block]; exact fun e => hc e.symm)).trans h)
            have KEEP7 := Lib.hid (show _ ∧ _ ∧ _ ∧ _ ∧ _ from ⟨hcu, (far _ _ _ hne11 HQ11.out).cell0, (far _ _ _ hne11 HQ11.out).cell1, (far _ _ _ hne10 HQ10.out).cell0, (far _ _ _ hne10 HQ10.out).cell1⟩)
            have hqr := far _ _ _ (by have := rblk.1; omega) HQR.out
            have hbf := (HB6.out.setCell (p := vat r2 (i * 2)) (by rw [vat_block]; have := rblk.1; omega) (.int .i64 (padd one p (-1)).low)).setCell (p := vat r2 (i * 2 + 1)) (by rw [vat_block]; have := rblk.1; omega) (.slice y1 y2 y3)
            have HSET := Lib.hid hset; have HQF := Lib.hid hqr; have HBF := Lib.hid hbf
            have hzf : w.heap.size + 1 ≤ ((w6.setCell (vat r2 (i * 2)) (.int .i64 (padd one p (-1)).low)).setCell (vat r2 (i * 2 + 1)) (.slice y1 y2 y3)).heap.size := by have := HB6.out.size; have := HSZ.out; have := hb6.size; simp; omega
            clear hnc hb6 hb6' pm6 hset hr6 rblk snc hcu hcu6 far hqr hbf hne10 hne11 hlk hkl
            refine hK.out _ _ (KEEP6.out) (fun hHeld => ?_)
            clear hK K
            try simp only [Act.put, List.setIfInBounds_toArray, List.set_cons_zero, List.set_cons_succ]
            refine' wpAnyH_take (i := 8) (oi := ?oiq9) (v := ?vq9) ?haq9 (by kernel_rfl) ?hfq9 ?hrq9 ?hQq9 (Or.inl ⟨?hwq9, ?hyq9⟩) (by assumption) ?restq9
            case haq9 => (simp only [List.getElem?_toArray, List.getElem?_cons_succ, List.getElem?_cons_zero]; exact rfl)
            case hQq9 => exact fun _ _ _ h => h
            case hfq9 => kernel_rfl
            case hrq9 => kernel_rfl
            case hwq9 => rfl
            case hyq9 => (intro w hSw; (try dsimp only at hSw); obtain ⟨e1, e2, e3, e4, e5⟩ := hSw; go_simp; (try with_reducible rfl))
            try simp only [Act.put, List.setIfInBounds_toArray, List.set_cons_zero, List.set_cons_succ]
            refine wpAnyH_ready (rs := [9]) (by kernel_rfl) (by simp) ?_
            refine' AllReadyH.cons (o := ?oiq10) ?haq10 (fun K hK => ?stepq10) AllReadyH.nil
            case haq10 => (simp only [List.getElem?_toArray, List.getElem?_cons_succ, List.getElem?_cons_zero]; exact rfl)
            go_simp
            skip
            refine hK.out _ _ (KEEP7.out) (fun hHeld => ?_)
            clear hK K
            try simp only [Act.put, List.setIfInBounds_toArray, List.set_cons_zero, List.set_cons_succ]
            refine wpAnyH_done (by kernel_rfl) ?_ _
            go_wp2_with fail
            go_roundw
            case rel => exact ⟨i + 1, by omega, by go_num, HSET.out, HQF.out, HBF.out, hzf⟩
            case measure => simp [intOf]; omega
          · have hik2 : ¬ (i : Int) = (k : Int) := by omega
            have hone : oneP (decide (i = k)) = pzero := by rw [decide_eq_false hik]; rfl
            have HNEW := Lib.hid (by have := HNEW0.out; rw [hone] at this; exact this : (alexRow n xs i k).set k (padd pzero p (-1)) = alexRow n xs i (k + 1))
            have hal1 : Below Wi.heap.size Wi (Wi.alloc (.cells #[.int .i64 p.low, cs] 40)) := (Below.refl _ _).alloc (Nat.le_refl _) _
            have hal : Below Wi.heap.size Wi ((Wi.alloc (.cells #[.int .i64 p.low, cs] 40)).alloc (.cells #[.int .i64 0, .slice none 0 0] 40)) := hal1.alloc (by simp) _
            have q10 := (pair_new Wi 40 (.int .i64 p.low) cs).below ((Below.refl _ _).alloc (Nat.le_refl _) (.cells #[.int .i64 0, .slice none 0 0] 40))
            have q11 : Pair ((Wi.alloc (.cells #[.int .i64 p.low, cs] 40)).alloc (.cells #[.int .i64 0, .slice none 0 0] 40)) (Wi.heap.size + 1) 40 (.int .i64 pzero.low) (.slice none 0 0) := by
              have := pair_new (Wi.alloc (.cells #[.int .i64 p.low, cs] 40)) 40 (.int .i64 0) (.slice none 0 0)
              rw [show (Wi.alloc (.cells #[.int .i64 p.low, cs] 40)).heap.size = Wi.heap.size + 1 by simp] at this
              exact this
            have hz6 : w.heap.size + 1 ≤ ((Wi.alloc (.cells #[.int .i64 p.low, cs] 40)).alloc (.cells #[.int .i64 0, .slice none 0 0] 40)).heap.size := Nat.le_trans hz5 hal.size
            have HAL := Lib.hid hal; have HQ10a := Lib.hid q10; have HQ11a := Lib.hid q11
            clear hal1 hal q10 q11 hik hone
            go_wp2_with fail
            have hal := HAL.out; have q10 := HQ10a.out; have q11 := HQ11a.out
            generalize hW5 : (Wi.alloc (.cells #[.int .i64 p.low, cs] 40)).alloc (.cells #[.int .i64 0, .slice none 0 0] 40) = W5 at hal q10 q11 hz6 ⊢
            obtain ⟨one, hone⟩ : ∃ one, one = pzero := ⟨_, rfl⟩
            obtain ⟨oc, hoc⟩ : ∃ oc : Value, oc = .slice none 0 0 := ⟨_, rfl⟩
            rw [← hone, ← hoc] at q11
            rw [← hone] at HNEW
            have io : Ints W5 oc one.c := by rw [hone, hoc]; exact ints_nil _
            have HF1 := Lib.hid (show PFit one by rw [hone]; exact ⟨by decide, by decide⟩)
            have HF3 := Lib.hid (show n1 one.c + 1000 * n1 p.c ≤ 4000000000000000000 by rw [hone]; have := HPFK.out.2; simp [pzero, n1] at this ⊢; omega)
            have soc := io.isSl
            clear hone hoc HAL HQ10a HQ11a hW5
            have HF2 := Lib.hid HPFK.out.1
            have Q10 := Lib.hid q10; have Q11 := Lib.hid q11; have IO := Lib.hid io; have IP := Lib.hid (HEA.out.below hal); have HPM5 := Lib.hid (HPM.out.below hal); have QR := Lib.hid (HPB.out.below hal); have HB5 := Lib.hid (Below.chain HBB.out hal)
            have HVB := Lib.hid (show vblk r2 < Wi.heap.size by omega)
            have hz5' := hz6
            clear q10 q11 io hal hz5 e0 e1
            have dr : Below W5.heap.size W5 W5.drew := (Below.refl _ _).drew
            have HDR := Lib.hid dr
            have hcu5 := HPM5.out.cell (i := i) (by rw [HVL2.out]; exact hltm)
            rw [HVI.out] at hcu5
            have HST := Lib.hid (show W5.drew.cell? (vat u i) = some r2 ∧ W5.drew.cell? ⟨Wi.heap.size + 1, 0, none⟩ = some (.int .i64 one.low) ∧ W5.drew.cell? ⟨Wi.heap.size + 1, 1, none⟩ = some oc ∧ W5.drew.cell? ⟨Wi.heap.size, 0, none⟩ = some (.int .i64 p.low) ∧ W5.drew.cell? ⟨Wi.heap.size, 1, none⟩ = some cs from ⟨hcu5, Q11.out.cell0, Q11.out.cell1, Q10.out.cell0, Q10.out.cell1⟩)
            have HSZ := Lib.hid (show w.heap.size + 1 ≤ W5.drew.heap.size from hz5')
            clear dr hcu5
            refine wp_region_held_drew (S := fun W => W.cell? (vat u i) = some r2 ∧ W.cell? ⟨Wi.heap.size + 1, 0, none⟩ = some (.int .i64 one.low) ∧ W.cell? ⟨Wi.heap.size + 1, 1, none⟩ = some oc ∧ W.cell? ⟨Wi.heap.size, 0, none⟩ = some (.int .i64 p.low) ∧ W.cell? ⟨Wi.heap.size, 1, none⟩ = some cs) (by kernel_rfl) (HST.out) (fun hHeld => ?_)
            refine' wpAnyH_take (i := 0) (oi := ?oiz1) (v := ?vz1) ?haz1 (by kernel_rfl) ?hfz1 ?hrz1 ?hQz1 (Or.inl ⟨?hwz1, ?hyz1⟩) (by assumption) ?restz1
            case haz1 => (simp only [List.getElem?_toArray, List.getElem?_cons_zero]; exact rfl)
            case hQz1 => exact fun _ _ _ h => h
            case hfz1 => kernel_rfl
            case hrz1 => kernel_rfl
            case hwz1 => rfl
            case hyz1 => (intro w hSw; (try dsimp only at hSw); obtain ⟨e1, e2, e3, e4, e5⟩ := hSw; go_simp; (try with_reducible rfl))
            try simp only [Act.put, List.setIfInBounds_toArray, List.set_cons_zero, List.set_cons_succ]
            refine' wpAnyH_take (i := 1) (oi := ?oiz2) (v := ?vz2) ?haz2 (by kernel_rfl) ?hfz2 ?hrz2 ?hQz2 (Or.inl ⟨?hwz2, ?hyz2⟩) (by assumption) ?restz2
            case haz2 => (simp only [List.getElem?_toArray, List.getElem?_cons_succ, List.getElem?_cons_zero]; exact rfl)
            case hQz2 => exact fun _ _ _ h => h
            case hfz2 => kernel_rfl
            case hrz2 => kernel_rfl
            case hwz2 => rfl
            case hyz2 => (intro w hSw; (try dsimp only at hSw); obtain ⟨e1, e2, e3, e4, e5⟩ := hSw; go_simp; (try with_reducible rfl))
            try simp only [Act.put, List.setIfInBounds_toArray, List.set_cons_zero, List.set_cons_succ]
            refine' wpAnyH_take (i := 2) (oi := ?oiz3) (v := ?vz3) ?haz3 (by kernel_rfl) ?hfz3 ?hrz3 ?hQz3 (Or.inl ⟨?hwz3, ?hyz3⟩) (by assumption) ?restz3
            case haz3 => (simp only [List.getElem?_toArray, List.getElem?_cons_succ, List.getElem?_cons_zero]; exact rfl)
            case hQz3 => exact fun _ _ _ h => h
            case hfz3 => kernel_rfl
            case hrz3 => kernel_rfl
            case hwz3 => rfl
            case hyz3 => (intro w hSw; (try dsimp only at hSw); obtain ⟨e1, e2, e3, e4, e5⟩ := hSw; go_simp; (try with_reducible rfl))
            try simp only [Act.put, List.setIfInBounds_toArray, List.set_cons_zero, List.set_cons_succ]
            refine' wpAnyH_take (i := 3) (oi := ?oiz4) (v := ?vz4) ?haz4 (by kernel_rfl) ?hfz4 ?hrz4 ?hQz4 (Or.inl ⟨?hwz4, ?hyz4⟩) (by assumption) ?restz4
            case haz4 => (simp only [List.getElem?_toArray, List.getElem?_cons_succ, List.getElem?_cons_zero]; exact rfl)
            case hQz4 => exact fun _ _ _ h => h
            case hfz4 => kernel_rfl
            case hrz4 => kernel_rfl
            case hwz4 => rfl
            case hyz4 => (intro w hSw; (try dsimp only at hSw); obtain ⟨e1, e2, e3, e4, e5⟩ := hSw; go_simp; (try with_reducible rfl))
            try simp only [Act.put, List.setIfInBounds_toArray, List.set_cons_zero, List.set_cons_succ]
            refine' wpAnyH_take (i := 4) (oi := ?oiz5) (v := ?vz5) ?haz5 (by kernel_rfl) ?hfz5 ?hrz5 ?hQz5 (Or.inl ⟨?hwz5, ?hyz5⟩) (by assumption) ?restz5
            case haz5 => (simp only [List.getElem?_toArray, List.getElem?_cons_succ, List.getElem?_cons_zero]; exact rfl)
            case hQz5 => exact fun _ _ _ h => h
            case hfz5 => kernel_rfl
            case hrz5 => kernel_rfl
            case hwz5 => rfl
            case hyz5 => (intro w hSw; (try dsimp only at hSw); obtain ⟨e1, e2, e3, e4, e5⟩ := hSw; go_simp; (try with_reducible rfl))
            try simp only [Act.put, List.setIfInBounds_toArray, List.set_cons_zero, List.set_cons_succ]
            refine' wpAnyH_take (i := 5) (oi := ?oiz6) (v := ?vz6) ?haz6 (by kernel_rfl) ?hfz6 ?hrz6 ?hQz6 (Or.inl ⟨?hwz6, ?hyz6⟩) (by assumption) ?restz6
            case haz6 => (simp only [List.getElem?_toArray, List.getElem?_cons_succ, List.getElem?_cons_zero]; exact rfl)
            case hQz6 => exact fun _ _ _ h => h
            case hfz6 => kernel_rfl
            case hrz6 => kernel_rfl
            case hwz6 => rfl
            case hyz6 => (intro w hSw; (try dsimp only at hSw); obtain ⟨e1, e2, e3, e4, e5⟩ := hSw; go_simp; (try with_reducible rfl))
            try simp only [Act.put, List.setIfInBounds_toArray, List.set_cons_zero, List.set_cons_succ]
            refine' wpAnyH_take (i := 6) (oi := ?oiz7) (v := ?vz7) ?haz7 (by kernel_rfl) ?hfz7 ?hrz7 ?hQz7 (Or.inl ⟨?hwz7, ?hyz7⟩) (by assumption) ?restz7
            case haz7 => (simp only [List.getElem?_toArray, List.getElem?_cons_succ, List.getElem?_cons_zero]; exact rfl)
            case hQz7 => exact fun _ _ _ h => h
            case hfz7 => kernel_rfl
            case hrz7 => kernel_rfl
            case hwz7 => rfl
            case hyz7 => (intro w hSw; (try dsimp only at hSw); obtain ⟨e1, e2, e3, e4, e5⟩ := hSw; go_simp; (try with_reducible rfl))
            try simp only [Act.put, List.setIfInBounds_toArray, List.set_cons_zero, List.set_cons_succ]
            refine wpAnyH_ready (rs := [7]) (by kernel_rfl) (by simp) ?_
            refine' AllReadyH.cons (o := ?oiz8) ?haz8 (fun K hK => ?stepz8) AllReadyH.nil
            case haz8 => (simp only [List.getElem?_toArray, List.getElem?_cons_succ, List.getElem?_cons_zero]; exact rfl)
            go_simp
            go_at_call 77
            refine (plus_calls one p (-1) oc cs _ (IO.out.below HDR.out) (IP.out.below HDR.out) HF1.out.1 HF2.out.1 HF1.out.2 HF2.out.2 (by decide) HF3.out).mono ?_
            rintro e w6 ⟨nc, rfl, hnc, hb6⟩
            have snc := hnc.isSl
            obtain ⟨y1, y2, y3, rfl, -⟩ := snc.cases
            have hb6' := Below.chain HDR.out hb6
            have pm6 := HPM5.out.below hb6'
            have HQ10 := Lib.hid (Q10.out.below hb6'); have HQ11 := Lib.hid (Q11.out.below hb6'); have HQR := Lib.hid (QR.out.below hb6'); have HB6 := Lib.hid (HB5.out.trans (hb6'.mono HB5.out.size))
            have hlk : k < (nthm ((alexMid n xs i).set i (alexRow n xs i k)) i).length := by rw [HROWI.out, alexRow_length, HM.out]; exact hkm
            have hset := pm6.set (i := i) (j := k) (q := padd one p (-1)) (u := .slice y1 y2 y3) (by rw [List.length_set, HML.out]; exact hltm) hlk (OwnI.low hnc HSZ.out)
            rw [HROWI.out, HNEW.out, List.set_set] at hset
            obtain ⟨us6, hr6⟩ := pm6.row i (by rw [List.length_set, HML.out]; exact hltm)
            rw [HROWI.out] at hr6
            have hcu := hset.cell (i := i) (by rw [HVL2.out]; exact hltm)
            have hcu6 := pm6.cell (i := i) (by rw [HVL2.out]; exact hltm)
            rw [HVI.out] at hset hr6 hcu hcu6
            have hkl : k < (alexRow n xs i k).length := by rw [alexRow_length, HM.out]; exact hkm
            have rr0 := hr6.read.low hkl
            have rr1 := hr6.read.c hkl
            have rf0 := hr6.frozen0 hkl
            have rf1 := hr6.frozen1 hkl
            have rr1' : ∀ x, (w6.setCell (vat r2 (k * 2)) x).cell? (vat r2 (k * 2 + 1)) = some (nthv us6 k) := fun x => by rw [cell_other _ _ (by omega)]; exact rr1
            have rf1' : ∀ x, (w6.setCell (vat r2 (k * 2)) x).frozen? (vat r2 (k * 2 + 1)) = false := fun x => by rw [frozen_other]; exact rf1
            have rblk := hr6.blk (by rw [alexRow_length, HM.out]; omega)
            have hne10 : vblk r2 ≠ Wi.heap.size := by have := HVB.out; omega
            have hne11 : vblk r2 ≠ Wi.heap.size + 1 := by have := HVB.out; omega
            have KEEP6 := Lib.hid (show w6.cell? (vat u i) = some r2 ∧ w6.cell? ⟨Wi.heap.size + 1, 0, none⟩ = some (.int .i64 one.low) ∧ w6.cell? ⟨Wi.heap.size + 1, 1, none⟩ = some oc ∧ w6.cell? ⟨Wi.heap.size, 0, none⟩ = some (.int .i64 p.low) ∧ w6.cell? ⟨Wi.heap.size, 1, none⟩ = some cs from ⟨hcu6, HQ11.out.cell0, HQ11.out.cell1, HQ10.out.cell0, HQ10.out.cell1⟩)
            have far : ∀ (c : Nat) (a b : Value), vblk r2 ≠ c → Pair w6 c 40 a b → Pair ((w6.setCell (vat r2 (k * 2)) (.int .i64 (padd one p (-1)).low)).setCell (vat r2 (k * 2 + 1)) (.slice y1 y2 y3)) c 40 a b := fun c a b hc h =>
              (Below.heap_setCell _ _ _ c (by rw [vat_block]; exact fun e => hc e.symm)).trans ((Below.heap_setCell _ _ _ c (by rw [vat_block]; exact fun e => hc e.symm)).trans h)
            have KEEP7 := Lib.hid (show _ ∧ _ ∧ _ ∧ _ ∧ _ from ⟨hcu, (far _ _ _ hne11 HQ11.out).cell0, (far _ _ _ hne11 HQ11.out).cell1, (far _ _ _ hne10 HQ10.out).cell0, (far _ _ _ hne10 HQ10.out).cell1⟩)
            have hqr := far _ _ _ (by have := rblk.1; omega) HQR.out
            have hbf := (HB6.out.setCell (p := vat r2 (k * 2)) (by rw [vat_block]; have := rblk.1; omega) (.int .i64 (padd one p (-1)).low)).setCell (p := vat r2 (k * 2 + 1)) (by rw [vat_block]; have := rblk.1; omega) (.slice y1 y2 y3)
            have HSET := Lib.hid hset; have HQF := Lib.hid hqr; have HBF := Lib.hid hbf
            have hzf : w.heap.size + 1 ≤ ((w6.setCell (vat r2 (k * 2)) (.int .i64 (padd one p (-1)).low)).setCell (vat r2 (k * 2 + 1)) (.slice y1 y2 y3)).heap.size := by have := HB6.out.size; have := HSZ.out; have := hb6.size; simp; omega
            clear hnc hb6 hb6' pm6 hset hr6 rblk snc hcu hcu6 far hqr hbf hne10 hne11 hlk hkl
            refine hK.out _ _ (KEEP6.out) (fun hHeld => ?_)
            clear hK K
            try simp only [Act.put, List.setIfInBounds_toArray, List.set_cons_zero, List.set_cons_succ]
            refine' wpAnyH_take (i := 8) (oi := ?oiz9) (v := ?vz9) ?haz9 (by kernel_rfl) ?hfz9 ?hrz9 ?hQz9 (Or.inl ⟨?hwz9, ?hyz9⟩) (by assumption) ?restz9
            case haz9 => (simp only [List.getElem?_toArray, List.getElem?_cons_succ, List.getElem?_cons_zero]; exact rfl)
            case hQz9 => exact fun _ _ _ h => h
            case hfz9 => kernel_rfl
            case hrz9 => kernel_rfl
            case hwz9 => rfl
            case hyz9 => (intro w hSw; (try dsimp only at hSw); obtain ⟨e1, e2, e3, e4, e5⟩ := hSw; go_simp; (try with_reducible rfl))
            try simp only [Act.put, List.setIfInBounds_toArray, List.set_cons_zero, List.set_cons_succ]
            refine wpAnyH_ready (rs := [9]) (by kernel_rfl) (by simp) ?_
            refine' AllReadyH.cons (o := ?oiz10) ?haz10 (fun K hK => ?stepz10) AllReadyH.nil
            case haz10 => (simp only [List.getElem?_toArray, List.getElem?_cons_succ, List.getElem?_cons_zero]; exact rfl)
            go_simp
            skip
            refine hK.out _ _ (KEEP7.out) (fun hHeld => ?_)
            clear hK K
            try simp only [Act.put, List.setIfInBounds_toArray, List.set_cons_zero, List.set_cons_succ]
            refine wpAnyH_done (by kernel_rfl) ?_ _
            go_wp2_with fail
            go_roundw
            case rel => exact ⟨k + 1, by omega, by go_num, HSET.out, HQF.out, HBF.out, hzf⟩
            case measure => simp [intOf]; omega
        · obtain rfl : k = m := by omega
          have hre : alexRow n xs i k = alexR n xs i := by rw [← HM.out]; exact row_end n xs i
          rw [hre, mid_step] at hpm
          have HPM := Lib.hid hpm; have HPB := Lib.hid hp; have HBB := Lib.hid hb
          clear hpm hp hb hre
          go_wp2_with fail
          go_roundw
          case rel => exact ⟨i + 1, vs2, by omega, by go_num, HPM.out, HVL2.out, HPB.out, HBB.out, hz5⟩
          case measure => simp [intOf]; omega
    · obtain rfl : i = m := by omega
      have hme : alexMid n xs i = alexM n xs := by rw [← HM.out]; exact mid_end n xs
      rw [hme] at hpm
      have hmr := hpm.mread (by rw [hwl, alexM_length, HM.out])
      have HSQ := Lib.hid (by have := sqM_alexM n xs; rw [HM.out] at this; exact this : SqM i (alexM n xs))
      have HFI := Lib.hid (by have := HFIT.out; rw [HM.out] at this; exact this : ExpFit i (alexM n xs))
      have hDD : expandL i (alexM n xs) = D := by rw [← HDD.out, HM.out]
      have HDI := Lib.hid hDD; clear hDD
      have HMR := Lib.hid hmr; have HP := Lib.hid hp; have HB := Lib.hid hb
      clear hpm hme hmr hp hb hml hwl
      go_wp2_with fail
      refine (expand_calls i u ws (alexM n xs) _ HMR.out HSQ.out (by omega) HFI.out).mono ?_
      rintro e u1 ⟨s, rfl, hs, hb1⟩
      have ss := hs.isSl
      have HS := Lib.hid hs.ints
      have HP5 := Lib.hid (HP.out.below hb1); have HB5 := Lib.hid (Below.chain HB.out hb1)
      have hz6 : w.heap.size + 1 ≤ u1.heap.size := Nat.le_trans hz hb1.size
      clear hs hb1 HP HB HMR HSQ HFI
      rw [HDI.out] at HS ⊢
      go_wp2_with fail
      refine (normal_calls D s _ HS.out HOK.out).mono ?_
      rintro e u2 ⟨z, rfl, hzr, hb2⟩
      have sz := hzr.isSl
      obtain ⟨s1, s2, s3, rfl, -⟩ := sz.cases
      have p4 := HP5.out.below hb2
      have B6 := Lib.hid (Below.chain HB5.out hb2)
      have e0 := p4.cell0; have e1 := p4.cell1; have f0 := p4.free0; have f1 := p4.free1
      have hne : ∀ k, Go.Sl.row (.slice s1 s2 s3) = some k → w.heap.size ≠ k := fun k hk e => by have := (hzr.lt k hk).1; omega
      have HZ4 := Lib.hid (hzr.low (show w.heap.size ≤ u1.heap.size by omega)); have HNE := Lib.hid hne
      clear hzr hb2 p4 hne
      have hlt := e0
      go_wp2_with fail
      refine bodyPost_ret (v := .tuple #[.agg #[.int .i64 (pnorm D).low, .slice s1 s2 s3], .int .i64 0]) (by simp [results, Try.results30, go_sem, e0, e1]) rfl ⟨_, rfl, ?_, ?_⟩
      · exact (HZ4.out.setOther (fun k hk => HNE.out k hk) _).setOther (fun k hk => HNE.out k hk) _
      · exact (B6.out.setCell (p := ⟨w.heap.size, 0, none⟩) (by simp) _).setCell (p := ⟨w.heap.size, 1, none⟩) (by simp) _

end Go.Proofs.Ytplekfgadbjgdaa


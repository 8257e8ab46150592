/- permgroup.Contains and permgroup.Factor walked, for elements of the group. -/
import Derived.Test.YtplekfgadbjgdaaQTopRinging0
import Derived.Test.YtplekfgadbjgdaaQTopRinging1
import Derived.Test.YtplekfgadbjgdaaQTopRinging2
import Derived.Test.YtplekfgadbjgdaaQTopRinging3
import Derived.Test.YtplekfgadbjgdaaQTopRinging4
import Derived.Test.YtplekfgadbjgdaaQTopRinging5
import Derived.Test.YtplekfgadbjgdaaQTopRinging6
import Derived.Test.YtplekfgadbjgdaaQTopRinging8
import Derived.Test.YtplekfgadbjgdaaQTopRinging9
import Derived.Test.YtplekfgadbjgdaaQTopRinging10
import Derived.Test.YtplekfgadbjgdaaQTopRinging11
import Derived.Test.YtplekfgadbjgdaaQTopRinging12
import Derived.Test.YtplekfgadbjgdaaQTopRinging13
import Derived.Test.YtplekfgadbjgdaaQTopRinging18
import Derived.Test.YtplekfgadbjgdaaQTopRinging19
import Derived.Test.YtplekfgadbjgdaaQTopRinging20
import Derived.Test.YtplekfgadbjgdaaQTopRinging21
import Derived.Test.YtplekfgadbjgdaaQTopRinging22
import Derived.Test.YtplekfgadbjgdaaQTopRinging23
import Derived.Test.YtplekfgadbjgdaaQTopRinging24
import Derived.Test.YtplekfgadbjgdaaQTopRinging25
import Derived.Test.YtplekfgadbjgdaaQTopRinging26
import Derived.Test.YtplekfgadbjgdaaQTopRinging27

namespace Go.Proofs.Ytplekfgadbjgdaa
open Go.RowKit Go.Sl Go.Mp Go.Maps

def factN : Nat → Nat
  | 0 => 1
  | k + 1 => factN k * (k + 1)
theorem LvG.od_le2 {n j : Nat} {L : Lv} (h : LvG n j L) (hn : n ≤ 1000) (hj : j < n) : L.od.length ≤ n - j := by
  have hs : ∀ x ∈ L.od, x ∈ List.range' j (n - j) := fun x hx => by
    obtain ⟨u, hu⟩ := Option.ne_none_iff_exists'.1 ((h.odm x).1 hx)
    obtain ⟨h1, h2, h3⟩ := h.rcs x u hu
    have hU := h.pm hn hu
    rw [List.mem_range'_1]
    rcases Nat.lt_or_ge x j with hl | hl
    · have hf := h3.fix hn h.gpm h1 fun g hg => h.gfix g hg x hl
      have := pm_inj hU h1 hj (by rw [hf, h2])
      omega
    · omega
  have := nodup_len L.od _ h.odn hs
  rwa [List.length_range'] at this
theorem sizeT_fact {n : Nat} {C : Nat → Lv} (h : Half n 0 0 C) (hn : n ≤ 1000) : ∀ (f j : Nat), j + f = n → sizeT C f j ≤ factN f
  | 0, _, _ => Nat.le_refl _
  | f + 1, j, e => by
    rw [sizeT, factN, Nat.mul_comm]
    have h1 := (h.lv j (Nat.zero_le _) (by omega)).od_le2 hn (by omega)
    exact Nat.mul_le_mul (sizeT_fact h hn f (j + 1) (by omega)) (by omega)
/-- An element of the group sifts through. -/
theorem ChainOf.through {n : Nat} {S : List (List Int)} {C : Nat → Lv} {p p' : List Int} {i' : Nat} (h : ChainOf n S C) (hn : n ≤ 9) (hp : Gen n S p) (hs : Sifted n C 0 p i' p') (hno : i' < n → (C i').rc (nth p' i').toNat = none) : i' = n := by
  rcases Nat.lt_or_ge i' n with hlt | hge
  · exfalso
    have h0 : 0 < n := by omega
    have ht : topGs n C = (C 0).gs := by unfold topGs; rw [if_pos h0]
    have hg0 := h.half.gpm (Nat.le_refl _) h0
    have hpt : Gen n (C 0).gs p := by rw [← ht]; exact (h.same p).2 hp
    have hp0 : Gen n (C 0).gs p' := (hs.same _ hg0 fun j _ h2 => h.half.nestTo (by omega) (Nat.le_refl _) (Nat.zero_le _) h2).1 hpt
    have down : ∀ j, j ≤ i' → Gen n (C j).gs p' := by
      intro j
      induction j with
      | zero => intro _; exact hp0
      | succ j ih =>
        intro hj
        obtain ⟨w, hw, hG⟩ := sift_finds h.half (by omega) (by omega) (ih (by omega))
        rw [hs.fix j (by omega), Int.toNat_natCast, (h.half.lv j (Nat.zero_le _) (by omega)).base] at hw
        obtain rfl := Option.some.inj hw
        have e : thenL p' (backL (iota n)) = p' := by
          have hone := pm_one (n := n) (by omega)
          have : backL (iota n) = iota n := by
            have h1 := pm_mulback hone
            rwa [pm_onemul hone.back] at h1
          rw [this, pm_mulone hs.pm]
        rw [e] at hG
        unfold nextGs at hG
        rwa [if_pos (by omega)] at hG
    obtain ⟨w, hw, _⟩ := sift_finds h.half (by omega) hlt (down i' (Nat.le_refl _))
    rw [hno hlt] at hw
    cases hw
  · have := hs.len; omega

set_option maxHeartbeats 4000000 in
set_option maxRecDepth 100000 in
theorem gcontains_calls (n : Nat) (gv : Value) (gvs : List Value) (S : List (List Int)) (pv : Value) (p : List Int) (w : World) (hr : RowsV w gv gvs S) (hS : ∀ g ∈ S, Pm n g) (hp : Ints w pv p) (hG : Gen n S p) (hn : n ≤ 9) (hl : S.length ≤ 6) :
    Calls Try.prog 38 #[.int .i64 n, gv, pv] w fun e w' => e = .returned (.tuple #[.bool true, .int .i64 0]) ∧ Below w.heap.size w w' := by
  have sgv := hr.isSl
  have spv := hp.isSl
  have hPp := hG.pm (by omega) hS
  have HR := Lib.hid hr; have HS := Lib.hid hS; have HP := Lib.hid hp; have HG := Lib.hid hG; have HPP := Lib.hid hPp
  clear hr hS hp hG hPp
  go_enter Try.func38, Try.ntmps38
  go_wp2_with fail
  refine (gcheck_calls n gv gvs S _ HR.out HS.out hn hl).mono ?_
  rintro e w1 ⟨rfl, hb⟩
  have HB := Lib.hid hb
  clear hb
  go_wp2_with fail
  refine (gcheck_calls n _ [pv] [p] _ (rows_lit1 w1 p pv (HP.out.below HB.out)) (fun g hg => by rw [List.mem_singleton.1 hg]; exact HPP.out) hn (by simp)).mono ?_
  rintro e w2 ⟨rfl, hb⟩
  replace HB := Lib.hid (Below.chain HB.out (Below.chain ((Below.refl _ _).alloc (Nat.le_refl _) _) hb))
  clear hb
  go_wp2_with fail
  refine (newChain_calls n gv gvs S _ (HR.out.below HB.out) HS.out hn (by omega)).mono ?_
  rintro e w3 ⟨cv, bx, lab, C, rfl, hM, hch, hb⟩
  have scv := hM.cs.1
  have hsz := HB.out.size
  have hrl : RowL lab w3 pv p := ⟨(HP.out.below HB.out).below hb, fun h0 => by
    have h1 := HP.out.blk_lt h0
    by_cases e : lab (vblk pv) = 0
    · exact e
    · have := (hM.lt _ e).1; omega⟩
  have hpos : PosC n C := fun j hj => ⟨(hch.half.lv j (Nat.zero_le _) hj).gpos (by omega), (hch.half.lv j (Nat.zero_le _) hj).rpos (by omega) (by omega)⟩
  have HM := Lib.hid hM; have HCH := Lib.hid hch; have HRL := Lib.hid hrl; have HPC := Lib.hid hpos
  replace HB := Lib.hid (Below.chain HB.out hb)
  clear hM hch hb hrl hpos
  go_wp2_with fail
  refine (sift_calls n _ lab cv bx C 0 pv p _ HM.out HPC.out HCH.out.half.lv HRL.out HPP.out (fun x hx => absurd hx (Nat.not_lt_zero _)) (Nat.zero_le _) hn).mono ?_
  rintro e w4 ⟨p', i', pv', rfl, hp', hsf, hno, hb⟩
  obtain rfl := HCH.out.through hn HG.out hsf hno
  have sp' := hp'.1.isSl
  replace HB := Lib.hid (Below.chain HB.out hb)
  clear hb hp' hsf hno
  go_wp2_with fail
  go_ret2
  exact ⟨rfl, HB.out⟩

set_option maxHeartbeats 4000000 in
set_option maxRecDepth 100000 in
/-- The order, with a bound. -/
theorem gorder2_calls (n : Nat) (gv : Value) (vs : List Value) (S : List (List Int)) (w : World) (hr : RowsV w gv vs S) (hS : ∀ g ∈ S, Pm n g) (hn : n ≤ 9) (hl : S.length ≤ 6) :
    Calls Try.prog 32 #[.int .i64 n, gv] w fun e w' => ∃ k : Nat, e = .returned (.tuple #[.int .i64 k, .int .i64 0]) ∧ HasCard (Gen n S) k ∧ k ≤ factN n ∧ Below w.heap.size w w' := by
  have sgv := hr.isSl
  have HR := Lib.hid hr; have HS := Lib.hid hS
  clear hr hS
  go_enter Try.func32, Try.ntmps32
  go_wp2_with fail
  refine (gcheck_calls n gv vs S _ HR.out HS.out hn hl).mono ?_
  rintro e w1 ⟨rfl, hb⟩
  have HB := Lib.hid hb
  clear hb
  go_wp2_with fail
  refine (newChain_calls n gv vs S _ (HR.out.below HB.out) HS.out hn (by omega)).mono ?_
  rintro e w2 ⟨cv, bx, lab, C, rfl, hM, hch, hb⟩
  have scv := hM.cs.1
  have HM := Lib.hid hM; have HCH := Lib.hid hch
  replace HB := Lib.hid (Below.chain HB.out hb)
  clear hM hch hb
  go_wp2_with fail
  refine (size_calls n _ lab cv bx C _ HM.out HCH.out.half hn).mono ?_
  rintro e w' ⟨rfl, rfl⟩
  go_wp2_with fail
  go_ret2
  exact ⟨_, rfl, HCH.out.card hn, sizeT_fact HCH.out.half (by omega) n 0 (Nat.zero_add n), HB.out⟩
theorem fact6 {n : Nat} (h : n ≤ 6) : factN n ≤ 720 := by
  obtain rfl | rfl | rfl | rfl | rfl | rfl | rfl : n = 0 ∨ n = 1 ∨ n = 2 ∨ n = 3 ∨ n = 4 ∨ n = 5 ∨ n = 6 := by omega
  all_goals decide

set_option maxHeartbeats 4000000 in
set_option maxRecDepth 100000 in
theorem gfactor_calls (n : Nat) (gv : Value) (gvs : List Value) (S : List (List Int)) (pv : Value) (p : List Int) (w : World) (hr : RowsV w gv gvs S) (hS : ∀ g ∈ S, Pm n g) (hp : Ints w pv p) (hG : Gen n S p) (hn : n ≤ 6) (hl : S.length ≤ 6) :
    Calls Try.prog 39 #[.int .i64 n, gv, pv] w fun e w' => ∃ u W, e = .returned (.tuple #[u, .int .i64 0]) ∧ OwnI w' w.heap.size u W ∧ valL n S W = p ∧ (∀ x ∈ W, okL S x) ∧ (∀ W2, (∀ x ∈ W2, okL S x) → valL n S W2 = p → W.length ≤ W2.length) ∧ Below w.heap.size w w' := by
  have sgv := hr.isSl
  have spv := hp.isSl
  have hn9 : n ≤ 9 := by omega
  have hPp := hG.pm (by omega) hS
  have HR := Lib.hid hr; have HS := Lib.hid hS; have HP := Lib.hid hp; have HG := Lib.hid hG; have HPP := Lib.hid hPp
  clear hr hS hp hG hPp
  go_enter Try.func39, Try.ntmps39
  go_wp2_with fail
  refine (gorder2_calls n gv gvs S _ HR.out HS.out hn9 hl).mono ?_
  rintro e w1 ⟨k, rfl, hk, hkf, hb⟩
  have hk720 := Nat.le_trans hkf (fact6 hn)
  have HB := Lib.hid hb; have HK := Lib.hid hk
  clear hb hk hkf
  go_wp2_with fail
  refine (gcheck_calls n _ [pv] [p] _ (rows_lit1 w1 p pv (HP.out.below HB.out)) (fun g hg => by rw [List.mem_singleton.1 hg]; exact HPP.out) hn9 (by simp)).mono ?_
  rintro e w2 ⟨rfl, hb⟩
  replace HB := Lib.hid (Below.chain HB.out (Below.chain ((Below.refl _ _).alloc (Nat.le_refl _) _) hb))
  clear hb
  go_wp2_with fail
  refine (search_calls n gv gvs S pv p _ (HR.out.below HB.out) HS.out (HP.out.below HB.out) HG.out hn9 hl HK.out (by omega)).mono ?_
  rintro e w3 ⟨u, W, rfl, hu, h1, h2, h3, hb⟩
  have su := hu.isSl
  have HU := Lib.hid (hu.low HB.out.size); have HW := Lib.hid (And.intro h1 (And.intro h2 h3))
  replace HB := Lib.hid (Below.chain HB.out hb)
  clear hu h1 h2 h3 hb
  go_wp2_with fail
  go_ret2
  exact ⟨_, W, rfl, HU.out, HW.out.1, HW.out.2.1, HW.out.2.2, HB.out⟩

end Go.Proofs.Ytplekfgadbjgdaa


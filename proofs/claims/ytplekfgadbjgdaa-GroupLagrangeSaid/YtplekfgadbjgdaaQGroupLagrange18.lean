/- groupLagrange: for every input the statement returns true, and nothing that was there has changed. -/
import Derived.Test.YtplekfgadbjgdaaQGroupLagrange0
import Derived.Test.YtplekfgadbjgdaaQGroupLagrange1
import Derived.Test.YtplekfgadbjgdaaQGroupLagrange2
import Derived.Test.YtplekfgadbjgdaaQGroupLagrange3
import Derived.Test.YtplekfgadbjgdaaQGroupLagrange4
import Derived.Test.YtplekfgadbjgdaaQGroupLagrange5
import Derived.Test.YtplekfgadbjgdaaQGroupLagrange6
import Derived.Test.YtplekfgadbjgdaaQGroupLagrange7
import Derived.Test.YtplekfgadbjgdaaQGroupLagrange8
import Derived.Test.YtplekfgadbjgdaaQGroupLagrange9
import Derived.Test.YtplekfgadbjgdaaQGroupLagrange10
import Derived.Test.YtplekfgadbjgdaaQGroupLagrange11
import Derived.Test.YtplekfgadbjgdaaQGroupLagrange12
import Derived.Test.YtplekfgadbjgdaaQGroupLagrange13
import Derived.Test.YtplekfgadbjgdaaQGroupLagrange14
import Derived.Test.YtplekfgadbjgdaaQGroupLagrange15
import Derived.Test.YtplekfgadbjgdaaQGroupLagrange16
import Derived.Test.YtplekfgadbjgdaaQGroupLagrange17

namespace Go.Proofs.Ytplekfgadbjgdaa
open Go.RowKit Go.Sl Go.Mp Go.Maps

theorem card_pos {n : Nat} {S : List (List Int)} {k : Nat} (h : HasCard (Gen n S) k) : 0 < k := by
  obtain ⟨l, _, e, h1⟩ := h
  rw [← e]
  exact List.length_pos_of_mem ((h1 _).2 .one)
theorem perms_pm {n : Nat} (hn : n ≤ 9) (R : List (List Int)) : ∀ g ∈ R.map (permL n), Pm n g := fun g hg => by
  obtain ⟨r, _, rfl⟩ := List.mem_map.1 hg
  exact ⟨permL_isPerm r (by omega), permL_length n r⟩

set_option maxHeartbeats 8000000 in
set_option maxRecDepth 100000 in
theorem groupLagrange_true {w0 : World} (n0 : Int) (hn0 : I64 n0) (raw : Value) (xss : List (List Int)) (hr0 : Rows2 w0 raw xss) (hx0 : ∀ r ∈ xss, ∀ x ∈ r, I64 x) (k0 : Int) (hk0 : I64 k0) (w : World) (hw : w = w0 := by rfl) :
    Calls Try.prog 5 #[.int .i64 n0, raw, .int .i64 k0] w fun e w' => e = .returned (.bool true) ∧ Below w.heap.size w w' := by
  subst hw
  obtain ⟨rvs, hrv⟩ := hr0
  have sr := hrv.isSl
  obtain ⟨n, hN⟩ : ∃ n : Nat, n0 % 8 = (n : Int) := ⟨(n0 % 8).toNat, by omega⟩
  have hn9 : n ≤ 9 := by omega
  obtain ⟨S, hS⟩ : ∃ S, (xss.take 4).map (permL n) = S := ⟨_, rfl⟩
  have hSpm : ∀ g ∈ S, Pm n g := by rw [← hS]; exact perms_pm hn9 _
  have hSl : S.length ≤ 4 := by rw [← hS, List.length_map, List.length_take]; omega
  obtain ⟨G, hG⟩ : ∃ G, S.length = G := ⟨_, rfl⟩
  rw [hG] at hSl
  obtain ⟨K, hK⟩ : ∃ K : Nat, k0 % ((G : Int) + 1) = (K : Int) := ⟨(k0 % ((G : Int) + 1)).toNat, by have := Int.emod_nonneg k0 (show (G : Int) + 1 ≠ 0 by omega); omega⟩
  have hKG : K ≤ G := by have := Int.emod_lt_of_pos k0 (show 0 < (G : Int) + 1 by omega); omega
  have HN := Lib.hid hN; have HRV := Lib.hid hrv; have HX := Lib.hid hx0; have HS := Lib.hid hS; have HP := Lib.hid hSpm; have HG := Lib.hid hG; have HK := Lib.hid hK
  clear hN hrv hx0 hS hSpm hG hK
  go_enter Try.func5, Try.ntmps5
  go_wp2_with fail
  refine (below_calls n0 8 w (by decide) (by decide) hn0).mono ?_
  rw [HN.out]
  rintro e w' ⟨rfl, rfl⟩
  go_wp2_with fail
  refine (perms_calls n 4 raw rvs xss _ HRV.out HX.out hn9 (by decide)).mono ?_
  rw [HS.out]
  rintro e w1 ⟨lv, rfl, hl, hb⟩
  obtain ⟨vs, hv⟩ := hl.own.rows
  have sl := hv.isSl
  have ll := hv.len
  have hcap := sl.le
  rw [HG.out] at ll
  rw [ll] at hcap
  have HV := Lib.hid hv; have HB := Lib.hid hb
  clear hl hv hb
  go_wp2_with fail
  refine (gorder_calls n lv vs S _ HV.out HP.out hn9 (by rw [HG.out]; omega)).mono ?_
  rintro e w2 ⟨m, rfl, hm, hmb, hb⟩
  have HM := Lib.hid hm
  replace HV := Lib.hid (HV.out.below hb); replace HB := Lib.hid (Below.chain HB.out hb)
  clear hm hb
  go_wp2_with fail
  refine (below_calls k0 ((G : Int) + 1) _ (by omega) (by omega) hk0).mono ?_
  rw [HK.out]
  rintro e w' ⟨rfl, rfl⟩
  have hcut := HV.out.takeTo (k := K) (m := vcap lv) (by rw [HG.out]; exact hKG) (by omega) (Nat.le_refl _)
  have sc := hcut.isSl
  have HC := Lib.hid hcut
  clear hcut
  go_wp2_with fail
  refine (gorder_calls n _ (vs.take K) (S.take K) _ HC.out (fun g hg => HP.out g (List.mem_of_mem_take hg)) hn9 (by rw [List.length_take, HG.out]; omega)).mono ?_
  rintro e w3 ⟨j, rfl, hj, hjb, hb⟩
  have hj0 := card_pos hj
  have hdvd := lagrange (by omega) (fun g hg => HP.out g (List.mem_of_mem_take hg)) HP.out (fun g hg => Gen.of HP.out (List.mem_of_mem_take hg)) hj HM.out
  have hmod : (m : Int).tmod (j : Int) = 0 := by
    obtain ⟨c, rfl⟩ := hdvd
    rw [Int.natCast_mul, Int.mul_comm]
    exact Int.mul_tmod_left _ _
  have hmod2 : (m : Int) % (j : Int) = 0 := by
    obtain ⟨c, rfl⟩ := hdvd
    rw [Int.natCast_mul]
    exact Int.mul_emod_right _ _
  replace HB := Lib.hid (Below.chain HB.out hb)
  have hjne : ((j : Int) == 0) = false := by rw [beq_eq_false_iff_ne]; omega
  clear hj hb hdvd
  go_wp2_with fail
  refine (grouped_calls _).mono ?_
  rintro e w4 ⟨rfl, hb⟩
  replace HB := Lib.hid (Below.chain HB.out hb)
  clear hb
  go_wp2_with fail
  go_ret
  exact ⟨rfl, HB.out⟩
end Go.Proofs.Ytplekfgadbjgdaa


/- freegroup.Reduced walked, for long words. Printed by gen_big.py. -/
import Derived.Test.YtnmklkjlcpgjmaaQDehornoyRelations0
import Derived.Test.YtnmklkjlcpgjmaaQDehornoyRelations1
import Derived.Test.YtnmklkjlcpgjmaaQDehornoyRelations2
import Derived.Test.YtnmklkjlcpgjmaaQDehornoyRelations3
import Derived.Test.YtnmklkjlcpgjmaaQDehornoyRelations7
import Derived.Test.YtnmklkjlcpgjmaaQDehornoyRelations9
import Derived.Test.YtnmklkjlcpgjmaaQDehornoyRelations10
import Derived.Test.YtnmklkjlcpgjmaaQDehornoyRelations15
import Derived.Test.YtnmklkjlcpgjmaaQDehornoyRelations19
import Derived.Deep.RegionLaw
namespace Go.Proofs.Ytnmklkjlcpgjmaa
open Go.RowKit Go.Sl

set_option maxHeartbeats 1000000 in
set_option maxRecDepth 100000 in
theorem reducedB_calls (v : Value) (vs : List Value) (xss : List (List Int)) (w : World) (hv : RowsV w v vs xss) (hb : ∀ xs ∈ xss, ∀ x ∈ xs, -1000 ≤ x ∧ x ≤ 1000) (hl : xss.flatten.length ≤ 16000000000000) :
    Calls Try.prog 34 #[v] w fun e w' => ∃ out, e = .returned out ∧ OwnI w' w.heap.size out (redL xss.flatten) ∧ Below w.heap.size w w' := by
  have sv := hv.isSl
  have lv := hv.len
  have i63 := sv.i63
  rw [lv] at i63
  have HV := Lib.hid hv; clear hv
  have HB := Lib.hid hb; clear hb
  have HL := Lib.hid hl; clear hl
  go_enter Try.func34, Try.ntmps34
  go_wp2_with fail
  go_loopw [3, 11] (fun out i wr => ∃ (k : Nat) (zs : List Int), k ≤ xss.length ∧ i = .int .i64 k ∧ zs = (act [] (xss.take k).flatten).reverse ∧ OwnI wr w.heap.size out zs ∧ Below w.heap.size w wr) (fun _ i _ => xss.length - (intOf i).toNat)
  case atStart => exact ⟨0, [], Nat.zero_le _, rfl, rfl, ownI_nil _ _, Below.refl _ _⟩
  case round =>
    obtain ⟨k, zs, hk, rfl, hzs, ho, hbr⟩ := hrel
    have HZ := Lib.hid hzs; clear hzs
    by_cases hlt : k < xss.length
    · have c1 := (HV.out.below hbr).cell hlt
      obtain ⟨r, hr⟩ : ∃ r, nthv vs k = r := ⟨_, rfl⟩
      obtain ⟨xs, hxs⟩ : ∃ xs, nthr xss k = xs := ⟨_, rfl⟩
      have hrow : Ints w r xs := by have := HV.out.row hlt; rwa [hr, hxs] at this
      have hbx : ∀ x ∈ xs, -1000 ≤ x ∧ x ≤ 1000 := HB.out xs (by rw [← hxs]; exact nthr_mem hlt)
      have hfl : (xss.take (k + 1)).flatten = (xss.take k).flatten ++ xs := by
        rw [List.take_succ_eq_append_getElem hlt, List.flatten_append, ← hxs, nthr_lt hlt]; simp
      have hle : (xss.take k).flatten.length + xs.length ≤ 16000000000000 := by
        have h1 : xss.flatten = (xss.take (k + 1)).flatten ++ (xss.drop (k + 1)).flatten := by rw [← List.flatten_append, List.take_append_drop]
        have h2 := HL.out
        rw [h1, hfl] at h2
        simp only [List.length_append] at h2
        omega
      rw [hr] at c1
      clear hr hxs
      have sr := hrow.isSl
      have lr := hrow.len
      have HR := Lib.hid hrow; clear hrow
      have HX := Lib.hid hbx; clear hbx
      have HF := Lib.hid hfl; clear hfl
      have hx1000 : xs.length ≤ 16000000000000 := by omega
      have HE := Lib.hid hle; clear hle
      have HO := Lib.hid ho; clear ho
      have HBR := Lib.hid hbr; clear hbr
      go_wp2_with fail
      obtain ⟨W, hW⟩ : ∃ W : World, W = wr := ⟨_, rfl⟩
      subst hW
      go_loopw [3, 17] (fun out i wr => ∃ (j : Nat) (ys : List Int), j ≤ xs.length ∧ i = .int .i64 j ∧ ys = (act [] ((xss.take k).flatten ++ xs.take j)).reverse ∧ OwnI wr w.heap.size out ys ∧ Below w.heap.size w wr) (fun _ i _ => xs.length - (intOf i).toNat)
      case atStart => exact ⟨0, zs, Nat.zero_le _, rfl, by rw [HZ.out]; simp, HO.out, HBR.out⟩
      case round =>
        obtain ⟨j, ys, hj, rfl, hys, ho, hbr⟩ := hrel
        have hyl : ys.length ≤ 16000000000000 := by
          have h1 := act_length [] ((xss.take k).flatten ++ xs.take j)
          have h2 := HE.out
          rw [hys, List.length_reverse]
          simp only [List.length_append, List.length_take, List.length_nil] at h1
          omega
        have so := ho.isSl
        have lo := ho.len
        have hbs := hbr.size
        by_cases hlj : j < xs.length
        · have d1 := (HR.out.below hbr).cell hlj
          have hxb := HX.out _ (nth_mem hlj)
          have hst : (act [] ((xss.take k).flatten ++ xs.take (j + 1))).reverse = if 0 < ys.length ∧ nth ys (ys.length - 1) = -(nth xs j) then ys.take (ys.length - 1) else ys ++ [nth xs j] := by
            rw [← psh_out _ _ hys, ← act_snoc, List.append_assoc, List.take_succ_eq_append_getElem hlj, nth_lt hlj]
          have HS := Lib.hid hst; clear hst
          have HY := Lib.hid hys; clear hys
          have HBR2 := Lib.hid hbr; clear hbr
          by_cases hp : 0 < ys.length
          · obtain ⟨m, hm⟩ : ∃ m, m = ys.length - 1 := ⟨_, rfl⟩
            have hm1 : m < ys.length := by omega
            have hmi : (ys.length : Int) - 1 = (m : Int) := by omega
            have hpi : (0 : Int) < (ys.length : Int) := by omega
            have d2 := ho.cell hm1
            have hmc : m ≤ vcap u3 := by have := ho.ints.cap; omega
            have hh := own_head ho (k := m) (by omega) hp
            have HH := Lib.hid hh; clear hh
            by_cases heq : nth ys m = -(nth xs j)
            · have he : (nth ys m == -(nth xs j)) = true := by simp [heq]
              have hfin : ys.take m = (act [] ((xss.take k).flatten ++ xs.take (j + 1))).reverse := by rw [HS.out, ← hm, if_pos ⟨hp, heq⟩]
              have HFI := Lib.hid hfin; clear hfin
              have HM := Lib.hid hm; clear hm heq
              clear HY
              go_wp2_with fail
              go_roundw
              case rel => exact ⟨j + 1, ys.take m, by omega, by go_num, HFI.out, HH.out.1, HBR2.out⟩
              case measure => simp [intOf]; omega
            · have he : (nth ys m == -(nth xs j)) = false := by simp [heq]
              have hfin : ys ++ [nth xs j] = (act [] ((xss.take k).flatten ++ xs.take (j + 1))).reverse := by rw [HS.out, ← hm, if_neg (fun h => heq h.2)]
              have HFI := Lib.hid hfin; clear hfin
              have HM := Lib.hid hm; clear hm heq
              clear HY
              go_wp2_with (first
                | (at_builtin; refine wpList_pushB (v := u3) rfl _ _ rfl rfl rfl ho hbs (by omega) ?_; intro out2 w2 ho2 hg2 hr2))
              have hb2 : Below w.heap.size w w2 := Below_of_grown HBR2.out hg2 hbs (fun b hb => (ho.lt b hb).1)
              go_roundw
              case rel => exact ⟨j + 1, _, by omega, by go_num, HFI.out, ho2, hb2⟩
              case measure => simp [intOf]; omega
          · have hpi : ¬ (0 : Int) < (ys.length : Int) := by omega
            have hfin : ys ++ [nth xs j] = (act [] ((xss.take k).flatten ++ xs.take (j + 1))).reverse := by rw [HS.out, if_neg (fun h => hp h.1)]
            have HFI := Lib.hid hfin; clear hfin
            clear HY
            go_wp2_with (first
              | (at_builtin; refine wpList_pushB (v := u3) rfl _ _ rfl rfl rfl ho hbs (by omega) ?_; intro out2 w2 ho2 hg2 hr2))
            have hb2 : Below w.heap.size w w2 := Below_of_grown HBR2.out hg2 hbs (fun b hb => (ho.lt b hb).1)
            go_roundw
            case rel => exact ⟨j + 1, _, by omega, by go_num, HFI.out, ho2, hb2⟩
            case measure => simp [intOf]; omega
        · have hj' : j = xs.length := by omega
          have hfin : ys = (act [] (xss.take (k + 1)).flatten).reverse := by rw [hys, hj', List.take_length, HF.out]
          have HFI := Lib.hid hfin; clear hfin hys hj'
          go_wp2_with fail
          go_roundw
          case rel => exact ⟨k + 1, ys, by omega, by go_num, HFI.out, ho, hbr⟩
          case measure => simp [intOf]; omega
    · have hk' : k = xss.length := by omega
      go_wp2_with (first
        | (go_at_call 32; refine (clip_calls _ _ w.heap.size _ ho).mono ?_; rintro e1 w3 ⟨rfl, v3, rfl, ho3⟩))
      go_ret
      have hz := HZ.out
      rw [hk', List.take_length] at hz
      exact ⟨v3, rfl, by rw [redL, ← hz]; exact ho3, hbr⟩

end Go.Proofs.Ytnmklkjlcpgjmaa


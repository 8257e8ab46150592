/- slices.Concat of slices of ints, walked (slices.Grow of nil with it). -/
import Derived.Test.YtnmklkjlcpgjmaaQDehornoyRelations0
import Derived.Test.YtnmklkjlcpgjmaaQDehornoyRelations1
import Derived.Test.YtnmklkjlcpgjmaaQDehornoyRelations2
import Derived.Test.YtnmklkjlcpgjmaaQDehornoyRelations3
import Derived.Lib.AppendZeros
import Derived.Lib.Walk
namespace Go.Proofs.Ytnmklkjlcpgjmaa
open Go.RowKit Go.Sl

set_option maxRecDepth 100000 in
theorem grow_calls (n : Nat) (w : World) (hn : n ≤ 1000000) :
    Calls Try.prog 21 #[.slice none 0 0, .int .i64 n] w fun e w' => ∃ v, e = .returned v ∧ OwnI w' w.heap.size v [] ∧ Below w.heap.size w w' := by
  by_cases h0 : n = 0
  · subst h0
    go_enter Try.func21, Try.ntmps21
    go_wp2_with fail
    go_ret
    exact ⟨_, rfl, ownI_nil _ _, Below.refl _ _⟩
  · obtain ⟨i, hi, hz0, hz1, hz2⟩ := info_parts info_int
    have h1 : (n : Int) > 0 := by omega
    have hr : ∀ ty, (Builtin.append_ #[22, 3] ty #[.slice none 0 0, .int .i64 (n : Int)]).run Try.prog w = _ :=
      fun ty => Go.Lib.run_append_nil_zeros (P := Try.prog) w 22 3 ty 3 i (.int .i64 0) .i64 .i64 Try.underlying22 Try.underlying3 hi hz0 n (by omega) (by omega) (by omega) (by rw [hz2]; omega)
    have hge := grownCap_ge w n 0 3
    have hcm : grownCap w n 0 3 ≤ maxLen := grownCap_le_maxLen w n 0 3 (by unfold maxLen; omega)
    obtain ⟨G, hG⟩ : ∃ G, G = grownCap w n 0 3 := ⟨_, rfl⟩
    rw [← hG] at hr hge hcm
    obtain ⟨cs, hcs⟩ : ∃ cs, cs = (Builtin.zeroCells (Value.int .i64 0).cells n ++ Builtin.zeroCells (Value.int .i64 0).cells (G - n)) := ⟨_, rfl⟩
    rw [← hcs] at hr
    have hsz : cs.size = G := by rw [hcs]; simp [size_zeroCells, Value.cells]; omega
    have hfin : OwnI (w.drew.alloc (.cells cs 3)) w.heap.size (.slice (some ⟨w.heap.size, 0, none⟩) 0 G) [] :=
      ⟨isSl_mk _ _ _ _ (Nat.zero_le _) hcm, rfl, fun _ => ⟨Nat.le_refl _, rfl, cs, heap_alloc_new w.drew _, by rw [hsz]; simp, rfl⟩⟩
    have hbl : Below w.heap.size w (w.drew.alloc (.cells cs 3)) := (Below.refl _ _).drew.alloc (Nat.le_refl _) _
    have hGn : n ≤ G := hge
    have HF := Lib.hid hfin; have HB := Lib.hid hbl; have HR := Lib.hid hr
    clear hfin hbl hr hsz hcs hG hi hz0 hz1 hz2 h0
    go_enter Try.func21, Try.ntmps21
    go_wp2_with (at_builtin; refine Lib.wpList_append_run _ rfl _ _ _ _ rfl _ _ rfl rfl _ _ (HR.out _) ?_)
    go_ret
    exact ⟨_, rfl, HF.out, HB.out⟩

theorem pre_succ {xss : List (List Int)} {k : Nat} (h : k < xss.length) : (xss.take (k + 1)).flatten = (xss.take k).flatten ++ nthr xss k := by
  rw [List.take_succ_eq_append_getElem h, List.flatten_append, nthr_lt h]; simp
theorem pre_le (xss : List (List Int)) (k : Nat) : (xss.take k).flatten.length ≤ xss.flatten.length := by
  have h1 : xss.flatten = (xss.take k).flatten ++ (xss.drop k).flatten := by rw [← List.flatten_append, List.take_append_drop]
  rw [h1, List.length_append]; omega

set_option maxRecDepth 100000 in
theorem concat_calls (v : Value) (vs : List Value) (xss : List (List Int)) (w : World) (hv : RowsV w v vs xss) (hl : xss.flatten.length ≤ 100000) :
    Calls Try.prog 8 #[v] w fun e w' => ∃ out, e = .returned out ∧ OwnI w' w.heap.size out xss.flatten ∧ Below w.heap.size w w' := by
  have sv := hv.isSl
  have lv := hv.len
  have i63 := sv.i63
  rw [lv] at i63
  obtain ⟨T, hT⟩ : ∃ T, T = xss.flatten.length := ⟨_, rfl⟩
  rw [← hT] at hl
  have HV := Lib.hid hv; clear hv
  have HT := Lib.hid hT; clear hT
  go_enter Try.func8, Try.ntmps8
  go_wp2_with fail
  go_loop [3, 11] (fun s i => ∃ (k m : Nat), k ≤ xss.length ∧ i = .int .i64 k ∧ s = .int .i64 m ∧ m = (xss.take k).flatten.length) (fun _ i => xss.length - (intOf i).toNat)
  case atStart => exact ⟨0, 0, Nat.zero_le _, rfl, rfl, by simp⟩
  case round =>
    obtain ⟨k, m, hk, rfl, rfl, hm⟩ := hrel
    have hmle : m ≤ T := by rw [hm, HT.out]; exact pre_le _ _
    have HM := Lib.hid hm; clear hm
    by_cases hlt : k < xss.length
    · have c1 := HV.out.cell hlt
      obtain ⟨r, hr⟩ : ∃ r, nthv vs k = r := ⟨_, rfl⟩
      obtain ⟨xs, hxs⟩ : ∃ xs, nthr xss k = xs := ⟨_, rfl⟩
      have hrow : Ints w r xs := by have := HV.out.row hlt; rwa [hr, hxs] at this
      have hnx : m + xs.length = (xss.take (k + 1)).flatten.length := by rw [pre_succ hlt, hxs, List.length_append, HM.out]
      have hle : m + xs.length ≤ T := by rw [hnx, HT.out]; exact pre_le _ _
      have hn0 : ¬ ((m : Int) + (xs.length : Int) < 0) := by omega
      rw [hr] at c1
      clear hr hxs
      have sr := hrow.isSl
      have lr := hrow.len
      have HN := Lib.hid hnx; clear hnx
      have HR := Lib.hid hrow; clear hrow
      go_wp2_with fail
      go_round
      case rel => exact ⟨k + 1, m + xs.length, by omega, by go_num, by go_num, HN.out⟩
      case measure => simp [intOf]; omega
    · have hmT : m = T := by rw [HM.out, HT.out, List.take_of_length_le (by omega)]
      subst hmT
      clear HM
      go_wp2_with fail
      refine (grow_calls m _ (by omega)).mono ?_
      rintro e w1 ⟨g, rfl, hg, hb1⟩
      have sg := hg.isSl
      have HG := Lib.hid hg; clear hg
      have HB1 := Lib.hid hb1; clear hb1
      go_wp2_with fail
      go_loopw [6, 27] (fun out i wr => ∃ k : Nat, k ≤ xss.length ∧ i = .int .i64 k ∧ OwnI wr w.heap.size out (xss.take k).flatten ∧ Below w.heap.size w wr) (fun _ i _ => xss.length - (intOf i).toNat)
      case atStart => exact ⟨0, Nat.zero_le _, rfl, HG.out, HB1.out⟩
      case round =>
        obtain ⟨k, hk, rfl, ho, hbr⟩ := hrel
        have so := ho.isSl
        by_cases hlt : k < xss.length
        · have c1 := (HV.out.below hbr).cell hlt
          obtain ⟨r, hr⟩ : ∃ r, nthv vs k = r := ⟨_, rfl⟩
          obtain ⟨xs, hxs⟩ : ∃ xs, nthr xss k = xs := ⟨_, rfl⟩
          have hrow : Ints wr r xs := by have := (HV.out.below hbr).row hlt; rwa [hr, hxs] at this
          have hnx : (xss.take k).flatten ++ xs = (xss.take (k + 1)).flatten := by rw [pre_succ hlt, hxs]
          have hle : (xss.take k).flatten.length + xs.length ≤ 1000000000000 := by
            have h1 := pre_le xss (k + 1)
            rw [← hnx, List.length_append, ← HT.out] at h1
            omega
          have hbs := hbr.size
          rw [hr] at c1
          clear hr hxs
          have sr := hrow.isSl
          have HN := Lib.hid hnx; clear hnx
          have HLE := Lib.hid hle; clear hle
          have HBR := Lib.hid hbr; clear hbr
          go_wp2_with (first
            | (at_builtin; refine wpList_concat rfl _ _ rfl rfl rfl ho hrow hbs HLE.out ?_; intro out2 w2 ho2 hg2 hr2; rw [HN.out] at ho2; have so2 := ho2.isSl))
          have hb2 : Below w.heap.size w w2 := Below_of_grown HBR.out hg2 hbs (fun b hb => (ho.lt b hb).1)
          go_roundw
          case rel => exact ⟨k + 1, by omega, by go_num, ho2, hb2⟩
          case measure => simp [intOf]; omega
        · have hall : (xss.take k).flatten = xss.flatten := by rw [List.take_of_length_le (by omega)]
          rw [hall] at ho
          have HO := Lib.hid ho; clear ho
          have HBR := Lib.hid hbr; clear hbr
          go_wp2_with fail
          go_ret
          exact ⟨_, rfl, HO.out, HBR.out⟩

end Go.Proofs.Ytnmklkjlcpgjmaa


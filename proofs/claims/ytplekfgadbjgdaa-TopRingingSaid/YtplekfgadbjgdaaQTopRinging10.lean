/- The functions of package perm and the makers of permutations, walked. -/
import Derived.Test.YtplekfgadbjgdaaQTopRinging0
import Derived.Test.YtplekfgadbjgdaaQTopRinging1
import Derived.Test.YtplekfgadbjgdaaQTopRinging2
import Derived.Test.YtplekfgadbjgdaaQTopRinging4
import Derived.Test.YtplekfgadbjgdaaQTopRinging8
import Derived.Deep.RegionLaw
namespace Go.Proofs.Ytplekfgadbjgdaa
open Go.RowKit Go.Sl


theorem then_calls (a b : Value) (xs ys : List Int) (w : World) (ha : Ints w a xs) (hb : Ints w b ys) (hl : xs.length ≤ 1000) (hx : ∀ x ∈ xs, 0 ≤ x ∧ x < ys.length) :
    Calls Try.prog 120 #[a, b] w fun e w' => ∃ v, e = .returned v ∧ OwnI w' w.heap.size v (thenL xs ys) ∧ Below w.heap.size w w' := by
  have sa := ha.isSl
  have sb := hb.isSl
  have la := ha.len
  have lb := hb.len
  have HA := Lib.hid ha; clear ha
  have HB := Lib.hid hb; clear hb
  have HX := Lib.hid hx; clear hx
  go_enter Try.func120, Try.ntmps120
  go_wp2_with (first
    | (at_make; refine wpList_make rfl _ _ rfl _ _ xs.length rfl rfl rfl rfl (by omega) ?_; intro out w1 ho1 hg1 hlo hsz))
  have so := ho1.isSl
  have hb1 : Below w.heap.size w w1 := Below_of_grown (Below.refl _ _) hg1 (Nat.le_refl _) (by intro k hk; cases hk)
  have HO := Lib.hid ho1; clear ho1 hg1
  have HS := Lib.hid hsz; clear hsz
  go_loopw [13] (fun i wr => ∃ k : Nat, k ≤ xs.length ∧ i = .int .i64 k ∧ OwnI wr w.heap.size out (fill (thenL xs ys) k) ∧ Below w.heap.size w wr) (fun i _ => xs.length - (intOf i).toNat)
  case atStart => exact ⟨0, Nat.zero_le _, rfl, by rw [fill_zero, thenL_length]; exact HO.out, hb1⟩
  case round =>
    obtain ⟨k, hk, rfl, ho, hbr⟩ := hrel
    by_cases hlt : k < xs.length
    · have hxk := HX.out _ (nth_mem hlt)
      have hlf : (fill (thenL xs ys) k).length = xs.length := by rw [fill_length _ _ (by rw [thenL_length]; exact hk), thenL_length]
      have c1 := (HA.out.below hbr).cell hlt
      have c2 := (HB.out.below hbr).cell (k := (nth xs k).toNat) (by omega)
      have c3 := ho.cell (k := k) (by omega)
      have f3 := ho.frozen (k := k) (by omega)
      have hset := ho.set (k := k) (by omega) (nth ys (nth xs k).toNat)
      have hbs := hbr.setCell (ho.ge (k := k) (by omega)) (.int .i64 (nth ys (nth xs k).toNat))
      have hnext := fill_set (thenL xs ys) k (by rw [thenL_length]; exact hlt)
      rw [nth_thenL _ _ _ hlt] at hnext
      rw [hnext] at hset
      have HS1 := Lib.hid hset; clear hset
      have HS2 := Lib.hid hbs; clear hbs
      clear hnext hlf ho hbr hb1
      go_wp2_with fail
      go_roundw
      case rel => exact ⟨k + 1, by omega, by go_num, HS1.out, HS2.out⟩
      case measure => simp [intOf]; omega
    · go_wp2_with fail
      go_ret
      have hk' : k = xs.length := by omega
      subst hk'
      exact ⟨out, rfl, by rw [← thenL_length xs ys, fill_all] at ho; exact ho, hbr⟩

theorem nodup_take {xs : List Int} (h : xs.Nodup) {k : Nat} (hk : k < xs.length) : ¬ nth xs k ∈ xs.take k := by
  rw [nth_lt hk]
  intro hm
  obtain ⟨j, hj, he⟩ := List.getElem_of_mem hm
  simp only [List.length_take] at hj
  rw [List.getElem_take] at he
  have := (List.getElem_inj h).1 he
  omega

theorem check_calls (v : Value) (xs : List Int) (w : World) (hv : Ints w v xs) (hp : IsPerm xs) (hs : xs.length ≤ 9) :
    Calls Try.prog 83 #[v] w fun e w' => e = .returned (.int .i64 0) ∧ w = w' := by
  have sv := hv.isSl
  have lv := hv.len
  have hc := hv.cap
  have HV := Lib.hid hv; clear hv
  have HP := Lib.hid hp; clear hp
  go_enter Try.func83, Try.ntmps83
  go_wp2_with fail
  go_loop [10] (fun i => ∃ k : Nat, k ≤ xs.length ∧ i = .int .i64 k) (fun i => xs.length - (intOf i).toNat)
  case atStart => exact ⟨0, Nat.zero_le _, rfl⟩
  case round =>
    obtain ⟨k, hk, rfl⟩ := hrel
    by_cases hlt : k < xs.length
    · have c1 := HV.out.cell hlt
      have hr := HP.out.range _ (nth_mem hlt)
      have hr1 := hr.1
      have hr2 := hr.2
      clear hr
      have hct := HV.out.cut (l := 0) (r := k) (m := vcap v) (by omega) (by omega) (by omega) (by omega)
      have HC := Lib.hid hct; clear hct
      have hnm := nodup_take HP.out.nodup hlt
      have HN := Lib.hid hnm; clear hnm
      go_wp2_with (go_at_call 54; refine (contains_no _ _ _ _ HC.out (by simpa using HN.out)).mono ?_; rintro e w' ⟨rfl, rfl⟩)
      go_round
      case rel => exact ⟨k + 1, by omega, by go_num⟩
      case measure => simp [intOf]; omega
    · go_wp2_with fail
      go_ret
      exact ⟨rfl, rfl⟩

theorem back_calls (a : Value) (xs : List Int) (w : World) (ha : Ints w a xs) (hp : IsPerm xs) :
    Calls Try.prog 84 #[a] w fun e w' => ∃ v, e = .returned v ∧ OwnI w' w.heap.size v (backL xs) ∧ Below w.heap.size w w' := by
  have sa := ha.isSl
  have la := ha.len
  have hs := hp.small
  have HA := Lib.hid ha; clear ha
  have HP := Lib.hid hp; clear hp
  go_enter Try.func84, Try.ntmps84
  go_wp2_with (first
    | (at_make; refine wpList_make rfl _ _ rfl _ _ xs.length rfl rfl rfl rfl (by omega) ?_; intro out w1 ho1 hg1 hlo hsz; have so := ho1.isSl))
  have hb1 : Below w.heap.size w w1 := Below_of_grown (Below.refl _ _) hg1 (Nat.le_refl _) (by intro k hk; cases hk)
  have HO := Lib.hid ho1; clear ho1 hg1
  have HS := Lib.hid hsz; clear hsz
  go_loopw [11] (fun i wr => ∃ k : Nat, k ≤ xs.length ∧ i = .int .i64 k ∧ OwnI wr w.heap.size out (backTo xs k) ∧ Below w.heap.size w wr) (fun i _ => xs.length - (intOf i).toNat)
  case atStart => exact ⟨0, Nat.zero_le _, rfl, by rw [backTo_zero]; exact HO.out, hb1⟩
  case round =>
    obtain ⟨k, hk, rfl, ho, hbr⟩ := hrel
    by_cases hlt : k < xs.length
    · have hxk := HP.out.range _ (nth_mem hlt)
      have hlf : (backTo xs k).length = xs.length := backTo_length _ _
      have c1 := (HA.out.below hbr).cell hlt
      have c3 := ho.cell (k := (nth xs k).toNat) (by omega)
      have f3 := ho.frozen (k := (nth xs k).toNat) (by omega)
      have hset := ho.set (k := (nth xs k).toNat) (by omega) k
      have hbs := hbr.setCell (ho.ge (k := (nth xs k).toNat) (by omega)) (.int .i64 k)
      rw [← backTo_succ] at hset
      have HS1 := Lib.hid hset; clear hset
      have HS2 := Lib.hid hbs; clear hbs
      clear hlf ho hbr hb1
      go_wp2_with fail
      go_roundw
      case rel => exact ⟨k + 1, by omega, by go_num, HS1.out, HS2.out⟩
      case measure => simp [intOf]; omega
    · go_wp2_with fail
      go_ret
      have hk' : k = xs.length := by omega
      subst hk'
      exact ⟨out, rfl, ho, hbr⟩

end Go.Proofs.Ytplekfgadbjgdaa


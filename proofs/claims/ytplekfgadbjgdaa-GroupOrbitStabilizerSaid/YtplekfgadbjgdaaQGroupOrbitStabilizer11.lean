/- The functions of package perm and the makers of permutations, walked. -/
import Derived.Test.YtplekfgadbjgdaaQGroupOrbitStabilizer0
import Derived.Test.YtplekfgadbjgdaaQGroupOrbitStabilizer1
import Derived.Test.YtplekfgadbjgdaaQGroupOrbitStabilizer2
import Derived.Test.YtplekfgadbjgdaaQGroupOrbitStabilizer5
import Derived.Test.YtplekfgadbjgdaaQGroupOrbitStabilizer8
import Derived.Deep.RegionLaw
namespace Go.Proofs.Ytplekfgadbjgdaa
open Go.RowKit Go.Sl


theorem then_calls (a b : Value) (xs ys : List Int) (w : World) (ha : Ints w a xs) (hb : Ints w b ys) (hl : xs.length ≤ 1000) (hx : ∀ x ∈ xs, 0 ≤ x ∧ x < ys.length) :
    Calls Try.prog 120 #[a, b] w fun e w' => ∃ v, e = .returned v ∧ OwnI w' w.heap.size v (thenL xs ys) ∧ Below w.heap.size w w' := by
  have sa := ha.isSl
  have sb := hb.isSl
  have la := ha.len
  have lb := hb.len
  have HA := Lib.hid ha; clear ha
  have HB := Lib.hid hb; clear hb
  have HX := Lib.hid hx; clear hx
  go_enter Try.func120, Try.ntmps120
  go_wp2_with (first
    | (at_make; refine wpList_make rfl _ _ rfl _ _ xs.length rfl rfl rfl rfl (by omega) ?_; intro out w1 ho1 hg1 hlo hsz))
  have so := ho1.isSl
  have hb1 : Below w.heap.size w w1 := Below_of_grown (Below.refl _ _) hg1 (Nat.le_refl _) (by intro k hk; cases hk)
  have HO := Lib.hid ho1; clear ho1 hg1
  have HS := Lib.hid hsz; clear hsz
  go_loopw [13] (fun i wr => ∃ k : Nat, k ≤ xs.length ∧ i = .int .i64 k ∧ OwnI wr w.heap.size out (fill (thenL xs ys) k) ∧ Below w.heap.size w wr) (fun i _ => xs.length - (intOf i).toNat)
  case atStart => exact ⟨0, Nat.zero_le _, rfl, by rw [fill_zero, thenL_length]; exact HO.out, hb1⟩
  case round =>
    obtain ⟨k, hk, rfl, ho, hbr⟩ := hrel
    by_cases hlt : k < xs.length
    · have hxk := HX.out _ (nth_mem hlt)
      have hlf : (fill (thenL xs ys) k).length = xs.length := by rw [fill_length _ _ (by rw [thenL_length]; exact hk), thenL_length]
      have c1 := (HA.out.below hbr).cell hlt
      have c2 := (HB.out.below hbr).cell (k := (nth xs k).toNat) (by omega)
      have c3 := ho.cell (k := k) (by omega)
      have f3 := ho.frozen (k := k) (by omega)
      have hset := ho.set (k := k) (by omega) (nth ys (nth xs k).toNat)
      have hbs := hbr.setCell (ho.ge (k := k) (by omega)) (.int .i64 (nth ys (nth xs k).toNat))
      have hnext := fill_set (thenL xs ys) k (by rw [thenL_length]; exact hlt)
      rw [nth_thenL _ _ _ hlt] at hnext
      rw [hnext] at hset
      have HS1 := Lib.hid hset; clear hset
      have HS2 := Lib.hid hbs; clear hbs
      clear hnext hlf ho hbr hb1
      go_wp2_with fail
      go_roundw
      case rel => exact ⟨k + 1, by omega, by go_num, HS1.out, HS2.out⟩
      case measure => simp [intOf]; omega
    · go_wp2_with fail
      go_ret
      have hk' : k = xs.length := by omega
      subst hk'
      exact ⟨out, rfl, by rw [← thenL_length xs ys, fill_all] at ho; exact ho, hbr⟩

theorem pick_drop {zs rest : List Int} {k : Nat} (hr : 0 < rest.length) : ∃ i : Nat, i < rest.length ∧ pick (zs.drop k) rest = i ∧ (k < zs.length → nth zs k % (rest.length : Int) = i) ∧ (zs.length ≤ k → i = 0) := by
  rcases Nat.lt_or_ge k zs.length with h | h
  · have h1 := Int.emod_nonneg (nth zs k) (b := (rest.length : Int)) (by omega)
    have h2 := Int.emod_lt_of_pos (nth zs k) (b := (rest.length : Int)) (by omega)
    refine ⟨(nth zs k % (rest.length : Int)).toNat, by omega, ?_, fun _ => by omega, fun h' => by omega⟩
    rw [List.drop_eq_getElem_cons h, nth_lt h]; rfl
  · refine ⟨0, hr, ?_, fun h' => by omega, fun _ => rfl⟩
    rw [List.drop_eq_nil_of_le h]; rfl

theorem eraseIdx_eq (l : List Int) (i : Nat) : l.take i ++ l.drop (i + 1) = l.eraseIdx i := (List.eraseIdx_eq_take_drop_succ l i).symm

theorem perm_step {rl dl zs X : List Int} {k i : Nat} (hpos : 0 < rl.length) (hi : i < rl.length) (hp : pick (zs.drop k) rl = i) (h : dl ++ permGo rl.length (zs.drop k) rl = X) :
    (dl ++ [nth rl i]) ++ permGo ([] ++ rl.take i ++ rl.drop (i + 1)).length (zs.drop (k + 1)) ([] ++ rl.take i ++ rl.drop (i + 1)) = X := by
  obtain ⟨m, hm⟩ : ∃ m, rl.length = m + 1 := ⟨rl.length - 1, by omega⟩
  have hl : (rl.take i ++ rl.drop (i + 1)).length = m := by simp; omega
  rw [List.nil_append, hl, eraseIdx_eq, ← h, hm, permGo, hp, List.tail_drop]
  simp
theorem perm_end {rl dl zs X : List Int} {k : Nat} (hpos : ¬ 0 < rl.length) (h : dl ++ permGo rl.length (zs.drop k) rl = X) : dl = X := by
  have : rl.length = 0 := by omega
  rw [this] at h; simpa [permGo] using h

set_option maxRecDepth 100000 in
theorem perm_calls (n : Nat) (raw : Value) (zs : List Int) (w : World) (hr : Ints w raw zs) (hn : n ≤ 1000) (hz : ∀ z ∈ zs, I64 z) :
    Calls Try.prog 34 #[.int .i64 n, raw] w fun e w' => ∃ v, e = .returned v ∧ OwnI w' w.heap.size v (permL n zs) ∧ Below w.heap.size w w' := by
  have sr := hr.isSl
  have lr := hr.len
  have i63 := sr.i63
  rw [lr] at i63
  have HR := Lib.hid hr; clear hr
  have HZ := Lib.hid hz; clear hz
  go_enter Try.func34, Try.ntmps34
  go_wp2_with (first
    | (at_make; refine wpList_make rfl _ _ rfl _ _ n rfl rfl rfl rfl (by omega) ?_; intro rest w1 ho1 hg1 hlo hsz; have so := ho1.isSl))
  have hb1 : Below w.heap.size w w1 := Below_of_grown (Below.refl _ _) hg1 (Nat.le_refl _) (by intro k hk; cases hk)
  have HO := Lib.hid ho1; clear ho1 hg1
  have HS := Lib.hid hsz; clear hsz
  go_loopw [14] (fun i wr => ∃ k : Nat, k ≤ n ∧ i = .int .i64 k ∧ OwnI wr w.heap.size rest (fill (iota n) k) ∧ Below w.heap.size w wr) (fun i _ => n - (intOf i).toNat)
  case atStart => exact ⟨0, Nat.zero_le _, rfl, by rw [fill_zero, iota_length]; exact HO.out, hb1⟩
  case round =>
    obtain ⟨k, hk, rfl, ho, hbr⟩ := hrel
    by_cases hlt : k < n
    · have hlf : (fill (iota n) k).length = n := by rw [fill_length _ _ (by rw [iota_length]; exact hk), iota_length]
      have c3 := ho.cell (k := k) (by omega)
      have f3 := ho.frozen (k := k) (by omega)
      have hset := ho.set (k := k) (by omega) k
      have hbs := hbr.setCell (ho.ge (k := k) (by omega)) (.int .i64 k)
      have hnext := fill_set (iota n) k (by rw [iota_length]; exact hlt)
      rw [nth_iota _ _ hlt] at hnext
      rw [hnext] at hset
      have HS1 := Lib.hid hset; clear hset
      have HS2 := Lib.hid hbs; clear hbs
      clear hnext hlf ho hbr hb1
      go_wp2_with fail
      go_roundw
      case rel => exact ⟨k + 1, by omega, by go_num, HS1.out, HS2.out⟩
      case measure => simp [intOf]; omega
    · have hk' : k = n := by omega
      have ho' : OwnI wr w.heap.size rest (iota n) := by
        rw [hk'] at ho
        have := fill_all (iota n)
        rw [iota_length] at this
        rw [← this]; exact ho
      have HO' := Lib.hid ho'
      clear ho ho' hk' hb1
      have HB1 := Lib.hid hbr; clear hbr
      clear so hlo
      go_wp2_with fail
      go_loopw [5, 7, 8] (fun rs out i wr => ∃ (k : Nat) (rl dl : List Int), i = .int .i64 k ∧ k + rl.length = n ∧ OwnI wr w.heap.size rs rl ∧ OwnI wr w.heap.size out dl ∧ dl.length = k ∧ (∀ b, row rs = some b → row out ≠ some b) ∧
          dl ++ permGo rl.length (zs.drop k) rl = permL n zs ∧ Below w.heap.size w wr) (fun _ _ i _ => n - (intOf i).toNat)
      case atStart => exact ⟨0, iota n, [], rfl, by rw [iota_length]; omega, HO'.out, ownI_nil _ _, rfl, by intro b hb; simp, by rw [iota_length]; rfl, HB1.out⟩
      case round =>
        rename_i wr0 _ _ _ _
        clear hk
        obtain ⟨k, rl, dl, rfl, hk, hor, hod, hdl, hap, hval, hbr⟩ := hrel
        have HV := Lib.hid hval; clear hval
        have HK := Lib.hid hk; clear hk
        have HDL := Lib.hid hdl; clear hdl
        have sr := hor.isSl
        have lr := hor.len
        have hbs := hbr.size
        have HBR := Lib.hid hbr; clear hbr
        have HAP := Lib.hid hap; clear hap
        by_cases hpos : 0 < rl.length
        · obtain ⟨i, hi, hpick, hm, hz0⟩ := pick_drop (zs := zs) (k := k) hpos
          have hnl : rl.length ≤ 1000 := by have := HK.out; omega
          have hkl : k ≤ 1000 := by have := HK.out; omega
          have cel := hor.cell hi
          have HP := Lib.hid hpick; clear hpick
          have HM := Lib.hid hm; clear hm
          have HZ0 := Lib.hid hz0; clear hz0
          have hrr := hor.lt
          have HRR := Lib.hid hrr; clear hrr
          have hcp := hor.ints.cap
          have hdl' : dl.length ≤ 1000 := by have := HDL.out; omega
          rcases Nat.lt_or_ge k zs.length with hkz | hkz
          · have c1 := (HR.out.below HBR.out).cell hkz
            go_wp2_with (first
              | (go_at_call 13; refine (below_nat _ _ i _ (by omega) (by omega) (HZ.out _ (nth_mem hkz)) (HM.out hkz)).mono ?_; rintro e w' ⟨rfl, rfl⟩)
              | (at_builtin; refine wpList_push (v := u7) rfl _ _ rfl rfl rfl hod hbs (by omega) ?_; intro out2 w2 ho2 hg2 hr2))
            have hor2 : OwnI w2 w.heap.size u5 rl := hor.grown hg2 HAP.out
            have sr2 := hor2.isSl
            have hb2 : Below w.heap.size w w2 := Below_of_grown HBR.out hg2 hbs (fun b hb => (hod.lt b hb).1)
            have hs2 : w.heap.size ≤ w2.heap.size := hb2.size
            have CA : ∀ w', Below w2.heap.size w2 w' → Ints w' (vcut u5 0 i (vcap u5) 1) (rl.take i) := fun w' hb => by
              have := (hor2.ints.below hb).cut (l := 0) (r := i) (m := vcap u5) (by omega) (by omega) (by omega) (by omega)
              simpa using this
            have CB : ∀ w', Below w2.heap.size w2 w' → Ints w' (vcut u5 (i + 1) rl.length (vcap u5) 1) (rl.drop (i + 1)) := fun w' hb => by
              have := (hor2.ints.below hb).cut (l := i + 1) (r := rl.length) (m := vcap u5) (by omega) (by omega) (by omega) (by omega)
              rwa [List.take_of_length_le (by simp)] at this
            have HCA := Lib.hid CA; clear CA
            have HCB := Lib.hid CB; clear CB
            have HO2 := Lib.hid ho2; clear ho2
            have HG2 := Lib.hid hg2; clear hg2
            have HR2 := Lib.hid hr2; clear hr2
            have HB2 := Lib.hid hb2; clear hb2
            have HOR2 := Lib.hid hor2; clear hor2
            have HHOD := Lib.hid hod; clear hod
            have HHOR := Lib.hid hor; clear hor
            clear cel c1
            have q1 : i ≤ vcap u5 := by omega
            have q2 : i + 1 ≤ rl.length := by omega
            have q3 : IntKind.i64.wrap ((i : Int) + 1) = (i : Int) + 1 := IntWalk.i64_in _ (by omega)
            have q4 : ((i : Int) + 1).toNat = i + 1 := by omega
            have q5 : (0 : Int) ≤ (i : Int) + 1 := by omega
            have q6 : (i : Int) + 1 ≤ (rl.length : Int) := by omega
            go_region_law (first
              | (refine step_concat (v := .slice (some ⟨w2.heap.size, 0, none⟩) 0 0) rfl (.tmp 45) (.tmp 48) rfl rfl rfl (ownI_empty_drew _ w.heap.size hs2) (HCA.out _ (below_alloc_drew _ _)) (by simp; omega) (by simp <;> omega) ?_; intro v3 w3 ho3 hg3 hr3)
              | (refine step_concat (v := v3) rfl (.tmp 49) (.tmp 53) rfl rfl rfl ho3 (HCB.out _ (below_grown_none (below_alloc_drew _ _) hg3)) (Nat.le_trans hs2 (below_grown_none (below_alloc_drew _ _) hg3).size) (by simp <;> omega) ?_; intro v4 w4 ho4 hg4 hr4))
            all_goals
              go_wp2_with fail
              have E := concat2_end HO2.out rfl hg3 hr3 hg4 hr4
              go_roundw
              case rel => exact ⟨k + 1, [] ++ rl.take i ++ rl.drop (i + 1), dl ++ [nth rl i], by go_num, by have := HK.out; simp; omega, ho4, E.1, by have := HDL.out; simp; omega, E.2.1, perm_step hpos (by omega) HP.out HV.out, HB2.out.trans (E.2.2.mono hs2)⟩
              case measure => have := HK.out; simp [intOf]; omega
          · have hi0 := HZ0.out hkz
            subst hi0
            go_wp2_with (first
              | (at_builtin; refine wpList_push (v := u7) rfl _ _ rfl rfl rfl hod hbs (by omega) ?_; intro out2 w2 ho2 hg2 hr2))
            have hor2 : OwnI w2 w.heap.size u5 rl := hor.grown hg2 HAP.out
            have sr2 := hor2.isSl
            have hb2 : Below w.heap.size w w2 := Below_of_grown HBR.out hg2 hbs (fun b hb => (hod.lt b hb).1)
            have hs2 : w.heap.size ≤ w2.heap.size := hb2.size
            have CA : ∀ w', Below w2.heap.size w2 w' → Ints w' (vcut u5 0 0 (vcap u5) 1) (rl.take 0) := fun w' hb => by
              have := (hor2.ints.below hb).cut (l := 0) (r := 0) (m := vcap u5) (by omega) (by omega) (by omega) (by omega)
              simpa using this
            have CB : ∀ w', Below w2.heap.size w2 w' → Ints w' (vcut u5 (0 + 1) rl.length (vcap u5) 1) (rl.drop (0 + 1)) := fun w' hb => by
              have := (hor2.ints.below hb).cut (l := 0 + 1) (r := rl.length) (m := vcap u5) (by omega) (by omega) (by omega) (by omega)
              rwa [List.take_of_length_le (by simp)] at this
            have HCA := Lib.hid CA; clear CA
            have HCB := Lib.hid CB; clear CB
            have HO2 := Lib.hid ho2; clear ho2
            have HG2 := Lib.hid hg2; clear hg2
            have HR2 := Lib.hid hr2; clear hr2
            have HB2 := Lib.hid hb2; clear hb2
            have HOR2 := Lib.hid hor2; clear hor2
            have HHOD := Lib.hid hod; clear hod
            have HHOR := Lib.hid hor; clear hor
            clear cel
            have q2 : 1 ≤ rl.length := by omega
            have q3 : IntKind.i64.wrap 1 = 1 := IntWalk.i64_in _ (by omega)
            have q6 : (1 : Int) ≤ (rl.length : Int) := by omega
            go_region_law (first
              | (refine step_concat (v := .slice (some ⟨w2.heap.size, 0, none⟩) 0 0) rfl (.tmp 45) (.tmp 48) rfl rfl rfl (ownI_empty_drew _ w.heap.size hs2) (HCA.out _ (below_alloc_drew _ _)) (by simp; omega) (by simp <;> omega) ?_; intro v3 w3 ho3 hg3 hr3)
              | (refine step_concat (v := v3) rfl (.tmp 49) (.tmp 53) rfl rfl rfl ho3 (HCB.out _ (below_grown_none (below_alloc_drew _ _) hg3)) (Nat.le_trans hs2 (below_grown_none (below_alloc_drew _ _) hg3).size) (by simp <;> omega) ?_; intro v4 w4 ho4 hg4 hr4))
            all_goals
              go_wp2_with fail
              have E := concat2_end HO2.out rfl hg3 hr3 hg4 hr4
              go_roundw
              case rel => exact ⟨k + 1, [] ++ rl.take 0 ++ rl.drop (0 + 1), dl ++ [nth rl 0], by go_num, by have := HK.out; simp; omega, ho4, E.1, by have := HDL.out; simp; omega, E.2.1, perm_step hpos (by omega) HP.out HV.out, HB2.out.trans (E.2.2.mono hs2)⟩
              case measure => have := HK.out; simp [intOf]; omega
        · have hv := perm_end hpos HV.out
          have HV2 := Lib.hid hv; clear hv
          go_wp2_with fail
          go_ret
          exact ⟨u7, rfl, by rw [← HV2.out]; exact hod, HBR.out⟩

theorem nodup_take {xs : List Int} (h : xs.Nodup) {k : Nat} (hk : k < xs.length) : ¬ nth xs k ∈ xs.take k := by
  rw [nth_lt hk]
  intro hm
  obtain ⟨j, hj, he⟩ := List.getElem_of_mem hm
  simp only [List.length_take] at hj
  rw [List.getElem_take] at he
  have := (List.getElem_inj h).1 he
  omega

theorem check_calls (v : Value) (xs : List Int) (w : World) (hv : Ints w v xs) (hp : IsPerm xs) (hs : xs.length ≤ 9) :
    Calls Try.prog 83 #[v] w fun e w' => e = .returned (.int .i64 0) ∧ w = w' := by
  have sv := hv.isSl
  have lv := hv.len
  have hc := hv.cap
  have HV := Lib.hid hv; clear hv
  have HP := Lib.hid hp; clear hp
  go_enter Try.func83, Try.ntmps83
  go_wp2_with fail
  go_loop [10] (fun i => ∃ k : Nat, k ≤ xs.length ∧ i = .int .i64 k) (fun i => xs.length - (intOf i).toNat)
  case atStart => exact ⟨0, Nat.zero_le _, rfl⟩
  case round =>
    obtain ⟨k, hk, rfl⟩ := hrel
    by_cases hlt : k < xs.length
    · have c1 := HV.out.cell hlt
      have hr := HP.out.range _ (nth_mem hlt)
      have hr1 := hr.1
      have hr2 := hr.2
      clear hr
      have hct := HV.out.cut (l := 0) (r := k) (m := vcap v) (by omega) (by omega) (by omega) (by omega)
      have HC := Lib.hid hct; clear hct
      have hnm := nodup_take HP.out.nodup hlt
      have HN := Lib.hid hnm; clear hnm
      go_wp2_with (go_at_call 54; refine (contains_no _ _ _ _ HC.out (by simpa using HN.out)).mono ?_; rintro e w' ⟨rfl, rfl⟩)
      go_round
      case rel => exact ⟨k + 1, by omega, by go_num⟩
      case measure => simp [intOf]; omega
    · go_wp2_with fail
      go_ret
      exact ⟨rfl, rfl⟩

theorem back_calls (a : Value) (xs : List Int) (w : World) (ha : Ints w a xs) (hp : IsPerm xs) :
    Calls Try.prog 84 #[a] w fun e w' => ∃ v, e = .returned v ∧ OwnI w' w.heap.size v (backL xs) ∧ Below w.heap.size w w' := by
  have sa := ha.isSl
  have la := ha.len
  have hs := hp.small
  have HA := Lib.hid ha; clear ha
  have HP := Lib.hid hp; clear hp
  go_enter Try.func84, Try.ntmps84
  go_wp2_with (first
    | (at_make; refine wpList_make rfl _ _ rfl _ _ xs.length rfl rfl rfl rfl (by omega) ?_; intro out w1 ho1 hg1 hlo hsz; have so := ho1.isSl))
  have hb1 : Below w.heap.size w w1 := Below_of_grown (Below.refl _ _) hg1 (Nat.le_refl _) (by intro k hk; cases hk)
  have HO := Lib.hid ho1; clear ho1 hg1
  have HS := Lib.hid hsz; clear hsz
  go_loopw [11] (fun i wr => ∃ k : Nat, k ≤ xs.length ∧ i = .int .i64 k ∧ OwnI wr w.heap.size out (backTo xs k) ∧ Below w.heap.size w wr) (fun i _ => xs.length - (intOf i).toNat)
  case atStart => exact ⟨0, Nat.zero_le _, rfl, by rw [backTo_zero]; exact HO.out, hb1⟩
  case round =>
    obtain ⟨k, hk, rfl, ho, hbr⟩ := hrel
    by_cases hlt : k < xs.length
    · have hxk := HP.out.range _ (nth_mem hlt)
      have hlf : (backTo xs k).length = xs.length := backTo_length _ _
      have c1 := (HA.out.below hbr).cell hlt
      have c3 := ho.cell (k := (nth xs k).toNat) (by omega)
      have f3 := ho.frozen (k := (nth xs k).toNat) (by omega)
      have hset := ho.set (k := (nth xs k).toNat) (by omega) k
      have hbs := hbr.setCell (ho.ge (k := (nth xs k).toNat) (by omega)) (.int .i64 k)
      rw [← backTo_succ] at hset
      have HS1 := Lib.hid hset; clear hset
      have HS2 := Lib.hid hbs; clear hbs
      clear hlf ho hbr hb1
      go_wp2_with fail
      go_roundw
      case rel => exact ⟨k + 1, by omega, by go_num, HS1.out, HS2.out⟩
      case measure => simp [intOf]; omega
    · go_wp2_with fail
      go_ret
      have hk' : k = xs.length := by omega
      subst hk'
      exact ⟨out, rfl, ho, hbr⟩

end Go.Proofs.Ytplekfgadbjgdaa


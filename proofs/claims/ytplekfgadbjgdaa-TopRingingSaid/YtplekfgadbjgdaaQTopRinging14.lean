/- timbmake.Changes and ringing.Check walked. -/
import Derived.Test.YtplekfgadbjgdaaQTopRinging0
import Derived.Test.YtplekfgadbjgdaaQTopRinging1
import Derived.Test.YtplekfgadbjgdaaQTopRinging2
import Derived.Test.YtplekfgadbjgdaaQTopRinging3
import Derived.Test.YtplekfgadbjgdaaQTopRinging4
import Derived.Test.YtplekfgadbjgdaaQTopRinging7
import Derived.Test.YtplekfgadbjgdaaQTopRinging8
import Derived.Test.YtplekfgadbjgdaaQTopRinging10
import Derived.Test.YtplekfgadbjgdaaQTopRinging13
import Derived.Shelf.Abstract
namespace Go.Proofs.Ytplekfgadbjgdaa
open Go.RowKit Go.Sl

theorem ring_enters {k : FuncId} (h : Go.Proofs.Enters Try.prog k) : ∀ args w, (callFunc k args).run Try.prog w = .ok (.enter k args) w := h
theorem fix_and : ∀ q : Fin 64, bits .and .i64 (q.val : Int) ((q.val : Int) / 2) = ((q.val &&& (q.val >>> 1) : Nat) : Int) ∧ bits .and .i64 (q.val : Int) ((q.val : Int) - 1) = (if q.val = 0 then 0 else ((q.val &&& (q.val - 1) : Nat) : Int)) := by decide +kernel
theorem fix_step : ∀ q : Fin 64, q.val &&& (q.val >>> 1) ≠ 0 → q.val ≠ 0 ∧ chgFix 7 (q.val &&& (q.val - 1)) = chgFix 7 q.val ∧ q.val &&& (q.val - 1) < q.val := by decide +kernel
theorem fix_done : ∀ q : Fin 64, q.val &&& (q.val >>> 1) = 0 → chgFix 7 q.val = q.val := by decide +kernel
theorem fix_right : ∀ q : Fin 64, chgFix 7 q.val ≤ q.val ∧ chgFix 7 q.val &&& (2 * chgFix 7 q.val) = 0 := by decide +kernel
theorem pow_wrap : ∀ m : Fin 7, IntKind.i64.wrap ((2 : Int) ^ m.val) = ((2 ^ m.val : Nat) : Int) ∧ 2 ^ m.val ≤ 64 ∧ 0 < 2 ^ m.val := by decide +kernel
/-- A right change of m + 1 bells. -/
def Chg (m : Nat) (c : Int) : Prop := ∃ q : Nat, c = q ∧ q < 2 ^ m ∧ q < 64 ∧ q &&& (2 * q) = 0
theorem chgL_right {m : Nat} (hm : m < 7) (x : Int) : Chg m (chgL (m + 1) x) := by
  have hp := pow_wrap ⟨m, hm⟩
  simp only at hp
  unfold chgL
  rw [Nat.add_sub_cancel]
  have h1 := Int.emod_nonneg x (b := ((2 ^ m : Nat) : Int)) (by omega)
  have h2 := Int.emod_lt_of_pos x (b := ((2 ^ m : Nat) : Int)) (by omega)
  obtain ⟨q, hq⟩ : ∃ q : Nat, x % ((2 ^ m : Nat) : Int) = q := ⟨(x % ((2 ^ m : Nat) : Int)).toNat, by omega⟩
  rw [hq, Int.toNat_natCast]
  have hq2 : q < 2 ^ m := by omega
  have := fix_right ⟨q, by omega⟩
  simp only at this
  exact ⟨_, rfl, by omega, by omega, this.2⟩
theorem changesL_right {m : Nat} (hm : m < 7) (raw : List Int) (most : Nat) : ∀ c ∈ changesL (m + 1) raw most, Chg m c := by
  intro c hc
  obtain ⟨x, _, rfl⟩ := List.mem_map.1 hc
  exact chgL_right hm x
theorem changesL_length (n : Nat) (raw : List Int) (most : Nat) : (changesL n raw most).length ≤ most := by unfold changesL; simp; omega
theorem apart_of : ∀ q : Fin 64, q.val &&& (2 * q.val) = 0 → ∀ j : Fin 6, q.val.testBit j.val = true → q.val.testBit (j.val + 1) = false := by decide +kernel
theorem Chg.apart {m : Nat} {c : Int} (h : Chg m c) : Apart c.toNat := by
  obtain ⟨q, rfl, -, hq, h0⟩ := h
  rw [Int.toNat_natCast]
  intro j hj
  by_cases hj6 : j < 6
  · exact apart_of ⟨q, hq⟩ h0 ⟨j, hj6⟩ hj
  · have : q < 2 ^ j := Nat.lt_of_lt_of_le hq (Nat.le_trans (by decide : 64 ≤ 2 ^ 6) (Nat.pow_le_pow_right (by omega) (by omega)))
    rw [Nat.testBit_lt_two_pow this] at hj
    cases hj

set_option maxRecDepth 100000 in
set_option maxHeartbeats 2000000 in
theorem changes_calls (m : Nat) (raw : Value) (zs : List Int) (most : Nat) (w : World) (hr : Ints w raw zs) (hz : ∀ z ∈ zs, I64 z) (hm7 : m < 7) (hm : most ≤ 1000) :
    Calls Try.prog 44 #[.int .i64 ((m : Int) + 1), raw, .int .i64 most] w fun e w' => ∃ v, e = .returned v ∧ OwnI w' w.heap.size v (changesL (m + 1) zs most) ∧ Below w.heap.size w w' := by
  have sr := hr.isSl
  have lr := hr.len
  have hcap := hr.cap
  obtain ⟨ys, hys⟩ : ∃ ys, ys = zs.take most := ⟨_, rfl⟩
  have hgoal : changesL (m + 1) zs most = ys.map (chgL (m + 1)) := by rw [hys]; rfl
  rw [hgoal]
  clear hgoal
  obtain ⟨L, hL⟩ : ∃ L, L = zs.length := ⟨_, rfl⟩
  rw [← hL] at lr hcap
  have i63 := sr.i63
  rw [lr] at i63
  obtain ⟨n, hn⟩ : ∃ n, n = min L most := ⟨_, rfl⟩
  have hn1 : n ≤ L := by omega
  have hn2 : n ≤ most := by omega
  have htk : zs.take n = ys := by
    rw [hys, hn, hL, List.take_eq_take_iff]; omega
  have hcut : Ints w (vcut raw 0 n (vcap raw) 1) ys := by
    have := hr.cut (l := 0) (r := n) (m := vcap raw) (by omega) (by omega) (by omega) (by omega)
    rw [← htk]
    simpa using this
  have hlt' : ys.length = n := by rw [← htk]; simp; omega
  have hyz : ∀ y ∈ ys, I64 y := fun y hy => hz y (List.mem_of_mem_take (by rw [htk]; exact hy))
  have hcase : (most < L ∧ n = most) ∨ (¬ most < L ∧ n = L) := by omega
  clear hn hys htk hL
  have hnc : n ≤ vcap raw := by omega
  have HC := Lib.hid hcut; clear hcut
  have sc := HC.out.isSl
  have lc := HC.out.len
  rw [hlt'] at lc
  have HL := Lib.hid hlt'; clear hlt'
  clear hr hz
  have HZ := Lib.hid hyz; clear hyz
  have hp := pow_wrap ⟨m, hm7⟩
  simp only at hp
  obtain ⟨hpw, hp64, hp0⟩ := hp
  obtain ⟨pw, hpe⟩ : ∃ pw : Nat, 2 ^ m = pw := ⟨_, rfl⟩
  rw [hpe] at hp64 hp0 hpw
  have hmi : ((m : Int) + 1) - 1 = (m : Int) := by omega
  have hmn : ((m : Int)).toNat = m := by omega
  have HPE := Lib.hid hpe; clear hpe
  rcases hcase with ⟨hms, hh⟩ | ⟨hms, hh⟩
  all_goals
    subst hh
    go_enter Try.func44, Try.ntmps44
    go_wp2_with fail
    go_loopw [7, 18] (fun out i wr => ∃ k : Nat, k ≤ n ∧ i = .int .i64 k ∧ OwnI wr w.heap.size out ((ys.take k).map (chgL (m + 1))) ∧ Below w.heap.size w wr) (fun _ i _ => n - (intOf i).toNat)
    case atStart => exact ⟨0, Nat.zero_le _, rfl, ownI_nil _ _, Below.refl _ _⟩
    case round =>
      obtain ⟨k, hk, rfl, ho, hbr⟩ := hrel
      have hbs := hbr.size
      by_cases hlt : k < n
      · have c1 := (HC.out.below hbr).cell (k := k) (by rw [HL.out]; exact hlt)
        have hi : I64 (nth ys k) := HZ.out _ (nth_mem (by rw [HL.out]; exact hlt))
        have hll : ((ys.take k).map (chgL (m + 1))).length ≤ 1000 := by simp; omega
        have hnx : (ys.take k).map (chgL (m + 1)) ++ [chgL (m + 1) (nth ys k)] = (ys.take (k + 1)).map (chgL (m + 1)) := by
          have hk2 : k < ys.length := by rw [HL.out]; exact hlt
          rw [List.take_succ_eq_append_getElem hk2, List.map_append, nth_lt hk2]; rfl
        obtain ⟨z, hz⟩ : ∃ z, nth ys k = z := ⟨_, rfl⟩
        rw [hz] at c1 hi hnx
        obtain ⟨q0, hq0⟩ : ∃ q0 : Nat, z % (pw : Int) = q0 := ⟨(z % (pw : Int)).toNat, by have := Int.emod_nonneg z (b := (pw : Int)) (by omega); omega⟩
        have hq64 : q0 < 64 := by have := Int.emod_lt_of_pos z (b := (pw : Int)) (by omega); omega
        have hR : chgL (m + 1) z = ((chgFix 7 q0 : Nat) : Int) := by unfold chgL; rw [Nat.add_sub_cancel, HPE.out, hq0, Int.toNat_natCast]
        rw [hR] at hnx
        have HX := Lib.hid hnx; have HQ := Lib.hid hq0; have HO := Lib.hid ho; clear hnx hq0 hR hz ho
        have HBR := Lib.hid hbr; clear hbr
        go_wp2_with fail
        refine (below_calls z (pw : Int) _ (by omega) (by omega) hi).mono ?_
        rintro e w' ⟨rfl, rfl⟩
        rw [HQ.out]
        go_wp2_with fail
        go_loop [10] (fun i => ∃ q : Nat, q < 64 ∧ i = .int .i64 q ∧ chgFix 7 q = chgFix 7 q0) (fun i => (intOf i).toNat)
        case atStart => exact ⟨q0, hq64, rfl, rfl⟩
        case round =>
          obtain ⟨q, hq, rfl, hqe⟩ := hrel
          have hf := fix_and ⟨q, hq⟩
          simp only at hf
          obtain ⟨hf1, hf2⟩ := hf
          by_cases hd : q &&& (q >>> 1) = 0
          · have hdn := fix_done ⟨q, hq⟩ hd
            simp only at hdn
            rw [hd] at hf1
            rw [hdn] at hqe
            rw [← hqe] at HX
            have HF2 := Lib.hid hf2; clear hf2 hdn hqe hd
            go_wp2_with (at_builtin; refine wpList_push (v := u7) rfl _ _ rfl rfl rfl HO.out hbs (by omega) ?_; intro out2 w2 ho2 hg2 hr2)
            rw [HX.out] at ho2
            have hb2 : Below w.heap.size w w2 := Below_of_grown HBR.out hg2 hbs (fun b hb => (HO.out.lt b hb).1)
            exact ⟨⟨k + 1, by omega, by go_num, ho2, hb2⟩, by simp [intOf]; omega⟩
          · have hst := fix_step ⟨q, hq⟩ hd
            simp only at hst
            obtain ⟨hs0, hs1, hs2⟩ := hst
            rw [if_neg hs0] at hf2
            have hne : ((q &&& (q >>> 1) : Nat) : Int) ≠ 0 := by omega
            obtain ⟨d, hd2⟩ : ∃ d : Nat, q &&& (q >>> 1) = d := ⟨_, rfl⟩
            rw [hd2] at hf1 hne
            obtain ⟨q', hq'⟩ : ∃ q' : Nat, q &&& (q - 1) = q' := ⟨_, rfl⟩
            rw [hq'] at hf2 hs1 hs2
            have H1 := Lib.hid hs1
            clear hd hd2 hq' hs1
            go_wp2_with fail
            exact ⟨⟨q', by omega, rfl, by rw [H1.out]; exact hqe⟩, by simp [intOf]; omega⟩
      · go_wp2_with fail
        go_ret
        have hk' : k = n := by omega
        subst hk'
        exact ⟨u7, rfl, by rw [List.take_of_length_le (by rw [HL.out]; exact Nat.le_refl _)] at ho; exact ho, hbr⟩

/-- What a change is to the checks. -/
theorem chg_facts : ∀ q : Fin 64, ∀ m : Fin 7, q.val < 2 ^ m.val → q.val &&& (2 * q.val) = 0 → (q.val : Int) / (2 : Int) ^ m.val = 0 ∧ IntKind.i64.wrap ((q.val : Int) * 2) = (q.val : Int) * 2 ∧ bits .and .i64 (q.val : Int) ((q.val : Int) * 2) = 0 := by decide +kernel
set_option maxRecDepth 100000 in
theorem rcheck1_calls (m : Nat) (x : Int) (B : Nat) (w : World) (hc : w.cell? ⟨B, 0, none⟩ = some (.int .i64 ((m : Int) + 1))) (hm : m < 7) (hx : Chg m x) :
    Calls Try.prog 155 #[.int .i64 x, .pointer (some ⟨B, 0, none⟩)] w fun e w' => e = .returned (.bool false) ∧ w = w' := by
  obtain ⟨q, rfl, hq1, hq2, hq3⟩ := hx
  obtain ⟨f1, f2, f3⟩ := chg_facts ⟨q, hq2⟩ ⟨m, hm⟩ hq1 hq3
  simp only at f1 f2 f3
  have hmi : ((m : Int) + 1) - 1 = (m : Int) := by omega
  have h0 : ¬ (q : Int) < 0 := by omega
  clear hq1 hq3
  go_enter Try.func155, Try.ntmps155
  go_wp2_with fail
  go_ret
  exact ⟨rfl, rfl⟩

set_option maxRecDepth 100000 in
theorem rcheck_calls (m : Nat) (v : Value) (xs : List Int) (w : World) (hv : Ints w v xs) (hm : m < 7) (hx : ∀ c ∈ xs, Chg m c) (hl : xs.length ≤ 5040) :
    Calls Try.prog 128 #[.int .i64 ((m : Int) + 1), v] w fun e w' => e = .returned (.int .i64 0) ∧ Below w.heap.size w w' := by
  have sv := hv.isSl
  have lv := hv.len
  obtain ⟨W1, hW1⟩ : ∃ W1, W1 = w.alloc (.cells #[.int .i64 ((m : Int) + 1)] 3) := ⟨_, rfl⟩
  have hv1 : Ints W1 v xs := by rw [hW1]; exact hv.alloc _
  have hb1 : Below w.heap.size w W1 := by rw [hW1]; exact (Below.refl _ _).alloc (Nat.le_refl _) _
  have hc1 : W1.cell? ⟨w.heap.size, 0, none⟩ = some (.int .i64 ((m : Int) + 1)) := by rw [hW1]; simp [go_sem]
  have HC := Lib.hid (containsFunc_none v xs _ #[.pointer (some ⟨w.heap.size, 0, none⟩)] (ring_enters (Go.Proofs.enters_of Try.func155 (by kernel_rfl) rfl)) W1 hv1
    (fun x hxm => rcheck1_calls m x w.heap.size W1 hc1 hm (hx x hxm)))
  have n1 : ¬ (m : Int) + 1 < 1 := by omega
  have n2 : ¬ (m : Int) + 1 > 7 := by omega
  have n3 : ¬ (xs.length : Int) > 5040 := by omega
  have HW1 := Lib.hid hW1.symm; have HB1 := Lib.hid hb1
  clear hv hx hv1 hb1 hW1
  go_enter Try.func128, Try.ntmps128
  go_wp2_with fail
  rw [HW1.out]
  go_wp2_with fail
  refine HC.out.mono ?_
  rintro e w' ⟨rfl, rfl⟩
  go_wp2_with fail
  go_ret
  exact ⟨rfl, HB1.out⟩
end Go.Proofs.Ytplekfgadbjgdaa


/- PermPowers: for every input the statement returns true, and nothing that was there has changed. -/
import Derived.Test.YtpnbkoihglppnaaOrder
import Derived.Test.YtpnbkoihglppnaaPermGroup
namespace Go.Proofs.Ytpnbkoihglppnaa
open Go.RowKit Go.Sl

theorem IsOrder.unique {a : List Int} {m m' : Nat} (h : IsOrder a m) (k : IsOrder a m') : m = m' :=
  Nat.dvd_antisymm ((h.iff _).1 ((k.iff _).2 (Nat.dvd_refl _))) ((k.iff _).1 ((h.iff _).2 (Nat.dvd_refl _)))

set_option maxHeartbeats 4000000 in
set_option maxRecDepth 100000 in
theorem permPowers_true {w0 : World} (n : Int) (hn : I64 n) (a : Value) (zs : List Int) (ha : Ints w0 a zs) (hza : ∀ x ∈ zs, I64 x) (i : Int) (hi : I64 i) (k : Int) (hk : I64 k) (w : World) (hw : w = w0 := by rfl) :
    Calls Try.prog 11 #[.int .i64 n, a, .int .i64 i, .int .i64 k] w fun e w' => e = .returned (.bool true) ∧ Below w.heap.size w w' := by
  subst hw
  obtain ⟨N, hN⟩ : ∃ N : Nat, n % 10 = (N : Int) := ⟨(n % 10).toNat, by omega⟩
  have hN9 : N ≤ 9 := by omega
  obtain ⟨I, hI⟩ : ∃ I, i % 1000 = I := ⟨_, rfl⟩
  obtain ⟨K, hK⟩ : ∃ K, k % 1000 = K := ⟨_, rfl⟩
  have hI1 : 0 ≤ I := by omega
  have hI2 : I < 1000 := by omega
  have hK1 : 0 ≤ K := by omega
  have hK2 : K < 1000 := by omega
  have HN := Lib.hid hN; have HI := Lib.hid hI; have HK := Lib.hid hK
  have HZ := Lib.hid hza
  have HB : Below w.heap.size w w := Below.refl _ _
  obtain ⟨xs, hxs⟩ : ∃ xs, xs = permL N zs := ⟨_, rfl⟩
  have hp : IsPerm xs := by rw [hxs]; exact permL_isPerm zs (by omega)
  have hl : xs.length = N := by rw [hxs]; exact permL_length _ _
  have hs : xs.length ≤ 9 := by omega
  have HP := Lib.hid hp; have HL := Lib.hid hl; have HS := Lib.hid hs; have HXS := Lib.hid hxs
  clear hN hI hK hza hp hl hs hxs
  go_enter Try.func11, Try.ntmps11
  go_wp2_with fail
  refine (below_nat n 10 N _ (by omega) (by omega) hn HN.out).mono ?_
  rintro e w' ⟨rfl, rfl⟩
  go_wp2_with fail
  refine (perm_calls N a zs _ ha (by omega) HZ.out).mono ?_
  rw [← HXS.out]
  rintro e u1 ⟨x, rfl, hx0, hb1⟩
  replace HB := Below.chain HB hb1; clear hb1
  have hx := hx0.ints
  have s_hx := hx.isSl
  clear hx0 ha
  go_wp2_with fail
  refine (below_calls i 1000 _ (by omega) (by omega) hi).mono ?_
  rintro e w' ⟨rfl, rfl⟩
  rw [HI.out]
  go_wp2_with fail
  refine (below_calls k 1000 _ (by omega) (by omega) hk).mono ?_
  rintro e w' ⟨rfl, rfl⟩
  rw [HK.out]
  go_wp2_with fail
  refine (power_calls x xs (I - 500) _ hx HP.out HS.out (by omega) (by omega)).mono ?_
  rintro e u2 ⟨m1, p, rfl, om1, hp, hb⟩
  replace hx := hx.below hb
  replace HB := Below.chain HB hb; clear hb
  have s_p := hp.isSl
  go_wp2_with fail
  refine (power_calls x xs (K - 500) _ hx HP.out HS.out (by omega) (by omega)).mono ?_
  rintro e u3 ⟨m2, q, rfl, om2, hq, hb⟩
  replace hx := hx.below hb
  replace hp := hp.below hb
  replace HB := Below.chain HB hb; clear hb
  have s_q := hq.isSl
  have em2 := om1.unique om2; subst em2; clear om2
  go_wp2_with fail
  refine (power_calls x xs (I - 500 + (K - 500)) _ hx HP.out HS.out (by omega) (by omega)).mono ?_
  rintro e u4 ⟨m3, r, rfl, om3, hr, hb⟩
  replace hx := hx.below hb
  replace hp := hp.below hb
  replace hq := hq.below hb
  replace HB := Below.chain HB hb; clear hb
  have s_r := hr.isSl
  have em3 := om1.unique om3; subst em3; clear om3
  go_wp2_with fail
  refine (order_calls x xs _ hx HP.out HS.out).mono ?_
  rintro e u5 ⟨m4, rfl, om4, hb⟩
  replace hx := hx.below hb
  replace hp := hp.below hb
  replace hq := hq.below hb
  replace hr := hr.below hb
  replace HB := Below.chain HB hb; clear hb
  have em4 := om1.unique om4; subst em4; clear om4
  have hpos := om1.pos
  have hsm := om1.small
  have hsum := om1.sum HP.out (I - 500) (K - 500)
  have hpi := hp.ints; have hqi := hq.ints; have hri := hr.ints
  have HSUM := Lib.hid hsum; have OM := Lib.hid om1
  clear hsum om1 hp hq hr
  go_wp2_with fail
  refine (permuted_calls _).mono ?_
  rintro e u6 ⟨rfl, hb⟩
  replace hx := hx.below hb
  replace hpi := hpi.below hb
  replace hqi := hqi.below hb
  replace hri := hri.below hb
  replace HB := Below.chain HB hb; clear hb
  go_wp2_with fail
  refine (composeK_calls p q _ _ _ hpi hqi (powL_perm HP.out _) (powL_perm HP.out _) (by rw [powL_length, powL_length]) (by rw [powL_length]; exact HS.out)).mono ?_
  rintro e u7 ⟨c, rfl, hc, hb⟩
  replace hx := hx.below hb
  replace hri := hri.below hb
  replace HB := Below.chain HB hb; clear hb
  have s_c := hc.isSl
  clear hpi hqi
  go_wp2_with fail
  refine (equal_yes c r _ _ _ hc hri HSUM.out).mono ?_
  rintro e u8 ⟨rfl, hb⟩
  replace hx := hx.below hb
  replace HB := Below.chain HB hb; clear hb
  clear hc hri
  have lx := hx.len
  rw [HL.out] at lx
  have HX := Lib.hid hx; have HB8 := Lib.hid HB
  clear hx HB
  go_wp2_with fail
  go_loopw [18] (fun j wr => ∃ t : Nat, 1 ≤ t ∧ t ≤ m1 + 1 ∧ j = .int .i64 t ∧ Below w.heap.size w wr ∧ Below u8.heap.size u8 wr) (fun j _ => m1 + 1 - (intOf j).toNat)
  case atStart => exact ⟨1, Nat.le_refl _, by omega, rfl, HB8.out, Below.refl _ _⟩
  case round =>
    obtain ⟨t, ht1, ht2, rfl, hbr, hbu⟩ := hrel
    have HBR := Lib.hid hbr; have HBU := Lib.hid hbu; clear hbr hbu
    by_cases hle : t ≤ m1
    · have hle' : (t : Int) ≤ (m1 : Int) := by omega
      have hloop := OM.out.loop ht1 hle
      have HLOOP := Lib.hid hloop; clear hloop
      go_wp2_with fail
      refine (power_calls x xs t _ (HX.out.below HBU.out) HP.out HS.out (by omega) (by omega)).mono ?_
      rintro e u9 ⟨m5, y, rfl, o5, hy, hb⟩
      have e5 := OM.out.unique o5; subst e5; clear o5
      have HB9 := Lib.hid (Below.chain HBU.out hb); have HR9 := Lib.hid (Below.chain HBR.out hb)
      have s_y := hy.isSl
      have HY := Lib.hid hy.ints
      clear hb hy
      go_wp2_with fail
      refine (perm_calls N _ [] _ (ints_nil _) (by omega) (fun x hx => by cases hx)).mono ?_
      rintro e u10 ⟨z, rfl, hz, hb⟩
      rw [permL_nil] at hz
      have s_z := hz.isSl
      have HZZ := Lib.hid hz.ints; have HY2 := Lib.hid (HY.out.below hb)
      have HB10 := Lib.hid (Below.chain HB9.out hb); have HR10 := Lib.hid (Below.chain HR9.out hb)
      clear hb hz
      by_cases he : t = m1
      · have hee : ((t : Int) == (m1 : Int)) = true := by simp [he]
        have HE := Lib.hid (show powL xs ((t : Int) % m1).toNat = iota N by rw [← HL.out]; exact HLOOP.out.2 he)
        clear he
        go_wp2_with fail
        refine (equal_yes y z _ _ _ HY2.out HZZ.out HE.out).mono ?_
        rintro e u11 ⟨rfl, hb⟩
        have HB11 := Lib.hid (Below.chain HB10.out hb); have HR11 := Lib.hid (Below.chain HR10.out hb)
        clear hb
        go_wp2_with fail
        go_roundw
        case rel => exact ⟨t + 1, by omega, by omega, by go_num, HR11.out, HB11.out⟩
        case measure => simp [intOf]; omega
      · have hee : ((t : Int) == (m1 : Int)) = false := by rw [beq_eq_false_iff_ne]; omega
        have HE := Lib.hid (show ¬ powL xs ((t : Int) % m1).toNat = iota N by rw [← HL.out]; exact fun h => he (HLOOP.out.1 h))
        clear he
        go_wp2_with fail
        refine (equal_calls y z _ _ _ HY2.out HZZ.out).mono ?_
        rw [decide_eq_false HE.out]
        rintro e u11 ⟨rfl, hb⟩
        have HB11 := Lib.hid (Below.chain HB10.out hb); have HR11 := Lib.hid (Below.chain HR10.out hb)
        clear hb
        go_wp2_with fail
        go_roundw
        case rel => exact ⟨t + 1, by omega, by omega, by go_num, HR11.out, HB11.out⟩
        case measure => simp [intOf]; omega
    · have hle' : ¬ (t : Int) ≤ (m1 : Int) := by omega
      go_wp2_with fail
      go_ret
      exact ⟨rfl, HBR.out⟩

end Go.Proofs.Ytpnbkoihglppnaa

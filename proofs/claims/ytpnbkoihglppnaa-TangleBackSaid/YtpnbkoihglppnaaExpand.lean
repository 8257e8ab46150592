/- tangle.Expand and FromTwists walked. -/
import Derived.Test.YtpnbkoihglppnaaTwistLaw
import Derived.Test.YtpnbkoihglppnaaReverse
import Derived.Test.YtpnbkoihglppnaaClip
import Derived.Test.YtpnbkoihglppnaaIdxFunc
import Derived.Test.YtpnbkoihglppnaaClass
import Derived.Deep.RegionHeld3
namespace Go.Proofs.Ytpnbkoihglppnaa
open Go.RowKit Go.Sl

set_option maxHeartbeats 2000000 in
set_option maxRecDepth 100000 in
theorem expand_calls (n d : Int) (w : World) (hok : FracOk n d) (hn : n.natAbs ≤ 999) (hd : d ≤ 999) :
    Calls Try.prog 53 #[.agg #[.int .i64 n, .int .i64 d]] w fun e w' => ∃ v, e = .returned (.tuple #[v, .int .i64 0]) ∧ OwnI w' w.heap.size v (exL (if n < 0 then -1 else 1) n.natAbs d.natAbs).reverse ∧ Below w.heap.size w w' := by
  obtain ⟨s, hs⟩ : ∃ s : Int, s = if n < 0 then -1 else 1 := ⟨_, rfl⟩
  rw [← hs]
  have hs1 : s = 1 ∨ s = -1 := by rw [hs]; split; exact .inr rfl; exact .inl rfl
  obtain ⟨P, hP⟩ : ∃ P : Nat, P = n.natAbs := ⟨_, rfl⟩
  obtain ⟨Q, hQ⟩ : ∃ Q : Nat, d = (Q : Int) := ⟨d.natAbs, by have := hok.d0; omega⟩
  have hQd : d.natAbs = Q := by omega
  rw [hQd, ← hP]
  have hP9 : P ≤ 999 := by omega
  have hQ9 : Q ≤ 999 := by omega
  have hnb : -1000000 ≤ n ∧ n ≤ 1000000 := by omega
  have hsn : (n < 0 ∧ s = -1) ∨ (¬ n < 0 ∧ s = 1) := by
    by_cases h : n < 0
    · exact .inl ⟨h, by rw [hs, if_pos h]⟩
    · exact .inr ⟨h, by rw [hs, if_neg h]⟩
  have HC := Lib.hid (fun W => tcheck_calls n d W hok)
  have HS1 := Lib.hid hs1; have HP := Lib.hid hP.symm
  obtain ⟨hnb1, hnb2⟩ := hnb
  obtain ⟨W2, hW2⟩ : ∃ W2, W2 = w.alloc (.cells #[.int .i64 n, .int .i64 d] 68) := ⟨_, rfl⟩
  have hp2 : Pair W2 w.heap.size 68 (.int .i64 n) (.int .i64 d) := by rw [hW2]; exact pair_new _ _ _ _
  have hb2 : Below w.heap.size w W2 := by rw [hW2]; exact (Below.refl _ _).alloc (Nat.le_refl _) _
  have hsz : W2.heap.size = w.heap.size + 1 := by rw [hW2]; simp
  have HW2 := Lib.hid hW2.symm; have HP2 := Lib.hid hp2; have HB2 := Lib.hid hb2; have HSZ := Lib.hid hsz
  clear hW2 hp2 hb2 hs hP hs1 hok hn hd hQd hsz
  subst hQ
  rcases hsn with ⟨hneg, rfl⟩ | ⟨hneg, rfl⟩
  · go_enter Try.func53, Try.ntmps53
    go_wp2_with fail
    rw [HW2.out]
    have p0 := HP2.out.cell0
    have p1 := HP2.out.cell1
    go_wp2_with fail
    refine (HC.out _).mono ?_
    rintro e w1 ⟨rfl, hb1⟩
    have hq1 := HP2.out.below hb1
    have q0 := hq1.cell0
    have q1 := hq1.cell1
    have hq : Pair w1.drew w.heap.size 68 (.int .i64 n) (.int .i64 (Q : Int)) := hq1
    have HB1 := Lib.hid (HB2.out.trans (hb1.mono (by rw [HSZ.out]; omega))).drew
    clear hb1 hq1 p0 p1
    go_wp2_with fail
    go_region_held3 (fun w' => w'.cell? ⟨w.heap.size, 0, none⟩ = some (.int .i64 n) ∧ w'.cell? ⟨w.heap.size, 1, none⟩ = some (.int .i64 (Q : Int))) (exact ⟨hq.cell0, hq.cell1⟩)
      (first
        | (go_at_call 99; refine (tsize_calls n _ hnb1 hnb2).mono ?_; rintro e w' ⟨rfl, rfl⟩; rw [HP.out])
        | fail "arm")
    go_wp2_with fail
    go_loopw [6, 7, 8] (fun out x y wr => ∃ (p q : Nat) (zs : List Int), p ≤ 999 ∧ q ≤ 999 ∧ x = .int .i64 p ∧ y = .int .i64 q ∧ OwnI wr w.heap.size out zs ∧ zs.length ≤ 1000 ∧ (∀ S : Int, S = -1 → zs ++ exL S p q = exL S P Q) ∧ zs.length + q ≤ 999 ∧ Below w.heap.size w wr) (fun _ _ y _ => (intOf y).toNat)
    case atStart => exact ⟨P, Q, [], hP9, hQ9, rfl, rfl, ownI_nil _ _, by simp, fun S _ => by simp, by simpa using hQ9, HB1.out⟩
    case round =>
      obtain ⟨p, q, zs, hp, hq9, rfl, rfl, ho, hzl, he, hle, hbr⟩ := hrel
      have so := ho.isSl
      have hbs := hbr.size
      by_cases hq0 : 0 < q
      · obtain ⟨D, hD⟩ : ∃ D, p / q = D := ⟨_, rfl⟩
        obtain ⟨R, hR⟩ : ∃ R, p % q = R := ⟨_, rfl⟩
        have hD9 : D ≤ 999 := by rw [← hD]; exact Nat.le_trans (Nat.div_le_self p q) hp
        have hR9 : R < q := by rw [← hR]; exact Nat.mod_lt p hq0
        have hdiv : (p : Int).tdiv (q : Int) = (D : Int) := by rw [← hD]; rfl
        have hmod : (p : Int).tmod (q : Int) = (R : Int) := by rw [← hR]; rfl
        have hqz : ((q : Int) == 0) = false := by simp; omega
        have hnx : ∀ S : Int, S = -1 → (zs ++ [-(D : Int)]) ++ exL S q R = exL S P Q := fun S hS => by
          rw [← he S hS, exL_step S p q hq0, hD, hR, hS]
          simp
        have HO := Lib.hid ho; have HNX := Lib.hid hnx; have HBR := Lib.hid hbr; have HE := Lib.hid he
        clear ho hnx hbr he hD hR
        go_wp2_with (at_builtin; refine wpList_push (v := u6) rfl _ _ rfl rfl rfl HO.out hbs (by omega) ?_; intro out2 w3 ho3 hg3 hr3; have so3 := ho3.isSl; have hb3 := Below_of_grown HBR.out hg3 hbs (fun b hb => (HO.out.lt b hb).1))
        have HO3 := Lib.hid ho3; have HB3 := Lib.hid hb3
        clear ho3 hb3 hg3 hr3
        go_quiet (fail)
        go_wp2_with fail
        go_roundw
        case rel => exact ⟨q, R, _, hq9, by omega, rfl, rfl, HO3.out.below (Below.drawn _), by simp; omega, HNX.out, by simp; omega, HB3.out.trans ((Below.drawn _).mono HB3.out.size)⟩
        case measure => simp [intOf]; omega
      · obtain rfl : q = 0 := by omega
        have hfin := he (-1) rfl
        rw [exL_zero, List.append_nil] at hfin
        rw [hfin] at ho hzl
        have HO := Lib.hid ho; have HBR := Lib.hid hbr; have HE := Lib.hid he
        clear ho hbr he hfin
        go_wp2_with fail
        refine (reverse_calls _ _ w.heap.size _ HO.out (by omega)).mono ?_
        rintro e w3 ⟨⟨r, rfl⟩, ho3, hb3⟩
        have HO3 := Lib.hid ho3; have HB3 := Lib.hid (Below.trans HBR.out hb3); have so3 := ho3.isSl
        clear ho3 hb3
        go_wp2_with fail
        refine (clip_calls _ _ _ _ HO3.out).mono ?_
        rintro e w4 ⟨rfl, u2, rfl, hu2⟩
        have su2 := hu2.isSl
        have HU2 := Lib.hid hu2; clear hu2
        go_wp2_with fail
        go_ret2
        exact ⟨_, rfl, HU2.out, HB3.out⟩
  · go_enter Try.func53, Try.ntmps53
    go_wp2_with fail
    rw [HW2.out]
    have p0 := HP2.out.cell0
    have p1 := HP2.out.cell1
    go_wp2_with fail
    refine (HC.out _).mono ?_
    rintro e w1 ⟨rfl, hb1⟩
    have hq1 := HP2.out.below hb1
    have q0 := hq1.cell0
    have q1 := hq1.cell1
    have hq : Pair w1.drew w.heap.size 68 (.int .i64 n) (.int .i64 (Q : Int)) := hq1
    have HB1 := Lib.hid (HB2.out.trans (hb1.mono (by rw [HSZ.out]; omega))).drew
    clear hb1 hq1 p0 p1
    go_wp2_with fail
    go_region_held3 (fun w' => w'.cell? ⟨w.heap.size, 0, none⟩ = some (.int .i64 n) ∧ w'.cell? ⟨w.heap.size, 1, none⟩ = some (.int .i64 (Q : Int))) (exact ⟨hq.cell0, hq.cell1⟩)
      (first
        | (go_at_call 99; refine (tsize_calls n _ hnb1 hnb2).mono ?_; rintro e w' ⟨rfl, rfl⟩; rw [HP.out])
        | fail "arm")
    go_wp2_with fail
    go_loopw [6, 7, 8] (fun out x y wr => ∃ (p q : Nat) (zs : List Int), p ≤ 999 ∧ q ≤ 999 ∧ x = .int .i64 p ∧ y = .int .i64 q ∧ OwnI wr w.heap.size out zs ∧ zs.length ≤ 1000 ∧ (∀ S : Int, S = 1 → zs ++ exL S p q = exL S P Q) ∧ zs.length + q ≤ 999 ∧ Below w.heap.size w wr) (fun _ _ y _ => (intOf y).toNat)
    case atStart => exact ⟨P, Q, [], hP9, hQ9, rfl, rfl, ownI_nil _ _, by simp, fun S _ => by simp, by simpa using hQ9, HB1.out⟩
    case round =>
      obtain ⟨p, q, zs, hp, hq9, rfl, rfl, ho, hzl, he, hle, hbr⟩ := hrel
      have so := ho.isSl
      have hbs := hbr.size
      by_cases hq0 : 0 < q
      · obtain ⟨D, hD⟩ : ∃ D, p / q = D := ⟨_, rfl⟩
        obtain ⟨R, hR⟩ : ∃ R, p % q = R := ⟨_, rfl⟩
        have hD9 : D ≤ 999 := by rw [← hD]; exact Nat.le_trans (Nat.div_le_self p q) hp
        have hR9 : R < q := by rw [← hR]; exact Nat.mod_lt p hq0
        have hdiv : (p : Int).tdiv (q : Int) = (D : Int) := by rw [← hD]; rfl
        have hmod : (p : Int).tmod (q : Int) = (R : Int) := by rw [← hR]; rfl
        have hqz : ((q : Int) == 0) = false := by simp; omega
        have hnx : ∀ S : Int, S = 1 → (zs ++ [(D : Int)]) ++ exL S q R = exL S P Q := fun S hS => by
          rw [← he S hS, exL_step S p q hq0, hD, hR, hS]
          simp
        have HO := Lib.hid ho; have HNX := Lib.hid hnx; have HBR := Lib.hid hbr; have HE := Lib.hid he
        clear ho hnx hbr he hD hR
        go_wp2_with (at_builtin; refine wpList_push (v := u6) rfl _ _ rfl rfl rfl HO.out hbs (by omega) ?_; intro out2 w3 ho3 hg3 hr3; have so3 := ho3.isSl; have hb3 := Below_of_grown HBR.out hg3 hbs (fun b hb => (HO.out.lt b hb).1))
        have HO3 := Lib.hid ho3; have HB3 := Lib.hid hb3
        clear ho3 hb3 hg3 hr3
        go_quiet (fail)
        go_wp2_with fail
        go_roundw
        case rel => exact ⟨q, R, _, hq9, by omega, rfl, rfl, HO3.out.below (Below.drawn _), by simp; omega, HNX.out, by simp; omega, HB3.out.trans ((Below.drawn _).mono HB3.out.size)⟩
        case measure => simp [intOf]; omega
      · obtain rfl : q = 0 := by omega
        have hfin := he (1) rfl
        rw [exL_zero, List.append_nil] at hfin
        rw [hfin] at ho hzl
        have HO := Lib.hid ho; have HBR := Lib.hid hbr; have HE := Lib.hid he
        clear ho hbr he hfin
        go_wp2_with fail
        refine (reverse_calls _ _ w.heap.size _ HO.out (by omega)).mono ?_
        rintro e w3 ⟨⟨r, rfl⟩, ho3, hb3⟩
        have HO3 := Lib.hid ho3; have HB3 := Lib.hid (Below.trans HBR.out hb3); have so3 := ho3.isSl
        clear ho3 hb3
        go_wp2_with fail
        refine (clip_calls _ _ _ _ HO3.out).mono ?_
        rintro e w4 ⟨rfl, u2, rfl, hu2⟩
        have su2 := hu2.isSl
        have HU2 := Lib.hid hu2; clear hu2
        go_wp2_with fail
        go_ret2
        exact ⟨_, rfl, HU2.out, HB3.out⟩
end Go.Proofs.Ytpnbkoihglppnaa

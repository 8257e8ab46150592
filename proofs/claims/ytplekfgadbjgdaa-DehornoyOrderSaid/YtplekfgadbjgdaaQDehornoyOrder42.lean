/- dehornoyOrder: for every input the statement returns true, and nothing that was there has changed. -/
import Derived.Test.YtplekfgadbjgdaaQDehornoyOrder0
import Derived.Test.YtplekfgadbjgdaaQDehornoyOrder1
import Derived.Test.YtplekfgadbjgdaaQDehornoyOrder2
import Derived.Test.YtplekfgadbjgdaaQDehornoyOrder3
import Derived.Test.YtplekfgadbjgdaaQDehornoyOrder4
import Derived.Test.YtplekfgadbjgdaaQDehornoyOrder5
import Derived.Test.YtplekfgadbjgdaaQDehornoyOrder6
import Derived.Test.YtplekfgadbjgdaaQDehornoyOrder7
import Derived.Test.YtplekfgadbjgdaaQDehornoyOrder8
import Derived.Test.YtplekfgadbjgdaaQDehornoyOrder9
import Derived.Test.YtplekfgadbjgdaaQDehornoyOrder10
import Derived.Test.YtplekfgadbjgdaaQDehornoyOrder11
import Derived.Test.YtplekfgadbjgdaaQDehornoyOrder12
import Derived.Test.YtplekfgadbjgdaaQDehornoyOrder13
import Derived.Test.YtplekfgadbjgdaaQDehornoyOrder14
import Derived.Test.YtplekfgadbjgdaaQDehornoyOrder15
import Derived.Test.YtplekfgadbjgdaaQDehornoyOrder16
import Derived.Test.YtplekfgadbjgdaaQDehornoyOrder17
import Derived.Test.YtplekfgadbjgdaaQDehornoyOrder18
import Derived.Test.YtplekfgadbjgdaaQDehornoyOrder19
import Derived.Test.YtplekfgadbjgdaaQDehornoyOrder20
import Derived.Test.YtplekfgadbjgdaaQDehornoyOrder21
import Derived.Test.YtplekfgadbjgdaaQDehornoyOrder22
import Derived.Test.YtplekfgadbjgdaaQDehornoyOrder23
import Derived.Test.YtplekfgadbjgdaaQDehornoyOrder24
import Derived.Test.YtplekfgadbjgdaaQDehornoyOrder25
import Derived.Test.YtplekfgadbjgdaaQDehornoyOrder26
import Derived.Test.YtplekfgadbjgdaaQDehornoyOrder27
import Derived.Test.YtplekfgadbjgdaaQDehornoyOrder28
import Derived.Test.YtplekfgadbjgdaaQDehornoyOrder29
import Derived.Test.YtplekfgadbjgdaaQDehornoyOrder30
import Derived.Test.YtplekfgadbjgdaaQDehornoyOrder31
import Derived.Test.YtplekfgadbjgdaaQDehornoyOrder32
import Derived.Test.YtplekfgadbjgdaaQDehornoyOrder33
import Derived.Test.YtplekfgadbjgdaaQDehornoyOrder34
import Derived.Test.YtplekfgadbjgdaaQDehornoyOrder35
import Derived.Test.YtplekfgadbjgdaaQDehornoyOrder36
import Derived.Test.YtplekfgadbjgdaaQDehornoyOrder37
import Derived.Test.YtplekfgadbjgdaaQDehornoyOrder38
import Derived.Test.YtplekfgadbjgdaaQDehornoyOrder39
import Derived.Test.YtplekfgadbjgdaaQDehornoyOrder40
import Derived.Test.YtplekfgadbjgdaaQDehornoyOrder41
import Derived.OrdersHeld
import Derived.Deep.RegionHeld
import Derived.RangeFuncNested
import Derived.RangeFuncCalls
import Derived.OrdersIn
namespace Go.Proofs.Ytplekfgadbjgdaa
open Go.RowKit Go.Sl

theorem ok2 {n : Nat} (h5 : n ≤ 5) {X Y : List Int} (hx : LtW n X) (hy : LtW n Y) (lx : X.length ≤ 8) (ly : Y.length ≤ 8) : RedOK (invL X ++ Y) :=
  redOK_short ((inv_lt' hx).app hy) h5 (by rw [List.length_append, invL_len]; omega)
theorem ok4 {n : Nat} (h5 : n ≤ 5) {X Y Z : List Int} (hx : LtW n X) (hy : LtW n Y) (hz : LtW n Z) (lx : X.length ≤ 8) (ly : Y.length ≤ 8) : RedOK (invL (Z ++ X) ++ (Z ++ Y)) := by
  have e : redL (invL (Z ++ X) ++ (Z ++ Y)) = redL (invL X ++ Y) := by
    refine congrArg List.reverse ?_
    have h3 : invL (Z ++ X) = invL X ++ invL Z := by simp [invL]
    rw [h3, act_append, act_append, act_append, act_append]
    have := act_invL (act_rd rd_nil (invL X)) (invL Z)
    rw [invL_invL] at this
    rw [this]
  have l1 : LtW n (invL (Z ++ X) ++ (Z ++ Y)) := (inv_lt' (hz.app hx)).app (hz.app hy)
  refine redOK16 (l1.mono h5) ?_
  rw [e]
  refine Nat.le_trans (redL_length _) ?_
  rw [List.length_append, invL_len]; omega

set_option maxHeartbeats 8000000 in
set_option maxRecDepth 100000 in
theorem dehornoyOrder_true {w0 : World} (n0 : Int) (hn0 : I64 n0) (av : Value) (al : List Int) (ha0 : Ints w0 av al) (hza : ∀ x ∈ al, I64 x) (bv : Value) (bl : List Int) (hb0 : Ints w0 bv bl) (hzb : ∀ x ∈ bl, I64 x) (cv : Value) (cl : List Int) (hc0 : Ints w0 cv cl) (hzc : ∀ x ∈ cl, I64 x) (w : World) (hw : w = w0 := by rfl) :
    Calls Try.prog 10 #[.int .i64 n0, av, bv, cv] w fun e w' => e = .returned (.bool true) ∧ Below w.heap.size w w' := by
  subst hw
  have sav := ha0.isSl
  have sbv := hb0.isSl
  have scv := hc0.isSl
  obtain ⟨n, hN⟩ : ∃ n : Nat, 2 + n0 % (5 - 1) = (n : Int) := ⟨(2 + n0 % (5 - 1)).toNat, by omega⟩
  have hn2 : 2 ≤ n := by omega
  have hn5 : n ≤ 5 := by omega
  have q1 : IntKind.i64.wrap ((n : Int) - 1) = (n : Int) - 1 := IntWalk.i64_in _ ⟨by omega, by omega⟩
  have HN := Lib.hid hN; have HAR := Lib.hid ha0; have HAZ := Lib.hid hza; have HBR := Lib.hid hb0; have HBZ := Lib.hid hzb; have HCR := Lib.hid hc0; have HCZ := Lib.hid hzc
  clear hN ha0 hza hb0 hzb hc0 hzc
  go_enter Try.func10, Try.ntmps10
  go_wp2_with fail
  refine (strands_calls n0 5 _ hn0 (by decide) (by decide)).mono ?_
  rw [HN.out]
  rintro e w' ⟨rfl, rfl⟩
  go_wp2_with fail
  refine (word_calls ((n : Int) - 1) av al 8 _ HAR.out HAZ.out (by omega) (by omega) (by decide)).mono ?_
  obtain ⟨X, hL⟩ : ∃ X, wordL ((n : Int) - 1) al 8 = X := ⟨_, rfl⟩
  have hXb : BWord (n : Int) X := by rw [← hL]; exact wordL_bw (by omega) al 8
  have hXl := bw_lt hXb
  have h8 : X.length ≤ 8 := by rw [← hL]; exact wordL_length _ _ _
  rw [hL]
  rintro e w1 ⟨xv, rfl, hx, hb⟩
  have sX := hx.isSl
  have HX := Lib.hid hx.ints; have HXB := Lib.hid hXb; have HXL := Lib.hid hXl; have HX8 := Lib.hid h8
  clear hL hx hXb hXl h8
  replace HBR := Lib.hid (HBR.out.below hb); replace HCR := Lib.hid (HCR.out.below hb)
  have HB := Lib.hid hb
  clear hb
  go_wp2_with fail
  refine (word_calls ((n : Int) - 1) bv bl 8 _ HBR.out HBZ.out (by omega) (by omega) (by decide)).mono ?_
  obtain ⟨Y, hL⟩ : ∃ Y, wordL ((n : Int) - 1) bl 8 = Y := ⟨_, rfl⟩
  have hXb : BWord (n : Int) Y := by rw [← hL]; exact wordL_bw (by omega) bl 8
  have hXl := bw_lt hXb
  have h8 : Y.length ≤ 8 := by rw [← hL]; exact wordL_length _ _ _
  rw [hL]
  rintro e w2 ⟨yv, rfl, hx, hb⟩
  have sY := hx.isSl
  have HY := Lib.hid hx.ints; have HYB := Lib.hid hXb; have HYL := Lib.hid hXl; have HY8 := Lib.hid h8
  clear hL hx hXb hXl h8
  replace HX := Lib.hid (HX.out.below hb); replace HCR := Lib.hid (HCR.out.below hb)
  replace HB := Lib.hid (Below.chain HB.out hb)
  clear hb
  go_wp2_with fail
  refine (word_calls ((n : Int) - 1) cv cl 8 _ HCR.out HCZ.out (by omega) (by omega) (by decide)).mono ?_
  obtain ⟨Z, hL⟩ : ∃ Z, wordL ((n : Int) - 1) cl 8 = Z := ⟨_, rfl⟩
  have hXb : BWord (n : Int) Z := by rw [← hL]; exact wordL_bw (by omega) cl 8
  have hXl := bw_lt hXb
  have h8 : Z.length ≤ 8 := by rw [← hL]; exact wordL_length _ _ _
  rw [hL]
  rintro e w3 ⟨zv, rfl, hx, hb⟩
  have sZ := hx.isSl
  have HZ := Lib.hid hx.ints; have HZB := Lib.hid hXb; have HZL := Lib.hid hXl; have HZ8 := Lib.hid h8
  clear hL hx hXb hXl h8
  replace HX := Lib.hid (HX.out.below hb); replace HY := Lib.hid (HY.out.below hb)
  replace HB := Lib.hid (Below.chain HB.out hb)
  clear hb
  go_wp2_with fail
  refine (dCompare_calls n xv yv X Y _ HX.out HY.out (by omega) (by omega) HXL.out HYL.out (by have := HX8.out; omega) (by have := HY8.out; omega) (ok2 hn5 HXL.out HYL.out HX8.out HY8.out)).mono ?_
  rintro e w4 ⟨s1, rfl, hr, hs, hb⟩
  have hrs1 : -1 ≤ s1 ∧ s1 ≤ 1 := by rcases hr with h | h | h <;> omega
  obtain ⟨ps1, hp⟩ : ∃ p, -s1 = p := ⟨_, rfl⟩
  rw [hp]
  have HPs1 := Lib.hid hp
  clear hp
  have Hs1 := Lib.hid hs
  replace HX := Lib.hid (HX.out.below hb)
  replace HY := Lib.hid (HY.out.below hb)
  replace HZ := Lib.hid (HZ.out.below hb)
  replace HB := Lib.hid (Below.chain HB.out hb)
  clear hs hb hr
  go_wp2_with fail
  refine (dCompare_calls n yv xv Y X _ HY.out HX.out (by omega) (by omega) HYL.out HXL.out (by have := HY8.out; omega) (by have := HX8.out; omega) (ok2 hn5 HYL.out HXL.out HY8.out HX8.out)).mono ?_
  rintro e w5 ⟨s2, rfl, hr, hs, hb⟩
  have hrs2 : -1 ≤ s2 ∧ s2 ≤ 1 := by rcases hr with h | h | h <;> omega
  obtain ⟨ps2, hp⟩ : ∃ p, -s2 = p := ⟨_, rfl⟩
  rw [hp]
  have HPs2 := Lib.hid hp
  clear hp
  have Hs2 := Lib.hid hs
  replace HX := Lib.hid (HX.out.below hb)
  replace HY := Lib.hid (HY.out.below hb)
  replace HZ := Lib.hid (HZ.out.below hb)
  replace HB := Lib.hid (Below.chain HB.out hb)
  clear hs hb hr
  go_wp2_with fail
  refine (dCompare_calls n yv zv Y Z _ HY.out HZ.out (by omega) (by omega) HYL.out HZL.out (by have := HY8.out; omega) (by have := HZ8.out; omega) (ok2 hn5 HYL.out HZL.out HY8.out HZ8.out)).mono ?_
  rintro e w6 ⟨s3, rfl, hr, hs, hb⟩
  have hrs3 : -1 ≤ s3 ∧ s3 ≤ 1 := by rcases hr with h | h | h <;> omega
  obtain ⟨ps3, hp⟩ : ∃ p, -s3 = p := ⟨_, rfl⟩
  rw [hp]
  have HPs3 := Lib.hid hp
  clear hp
  have Hs3 := Lib.hid hs
  replace HX := Lib.hid (HX.out.below hb)
  replace HY := Lib.hid (HY.out.below hb)
  replace HZ := Lib.hid (HZ.out.below hb)
  replace HB := Lib.hid (Below.chain HB.out hb)
  clear hs hb hr
  go_wp2_with fail
  refine (dCompare_calls n xv zv X Z _ HX.out HZ.out (by omega) (by omega) HXL.out HZL.out (by have := HX8.out; omega) (by have := HZ8.out; omega) (ok2 hn5 HXL.out HZL.out HX8.out HZ8.out)).mono ?_
  rintro e w7 ⟨s4, rfl, hr, hs, hb⟩
  have hrs4 : -1 ≤ s4 ∧ s4 ≤ 1 := by rcases hr with h | h | h <;> omega
  obtain ⟨ps4, hp⟩ : ∃ p, -s4 = p := ⟨_, rfl⟩
  rw [hp]
  have HPs4 := Lib.hid hp
  clear hp
  have Hs4 := Lib.hid hs
  replace HX := Lib.hid (HX.out.below hb)
  replace HY := Lib.hid (HY.out.below hb)
  replace HZ := Lib.hid (HZ.out.below hb)
  replace HB := Lib.hid (Below.chain HB.out hb)
  clear hs hb hr
  obtain ⟨x1, x2, x3, rfl, -⟩ := sX.cases
  obtain ⟨y1, y2, y3, rfl, -⟩ := sY.cases
  obtain ⟨z1, z2, z3, rfl, -⟩ := sZ.cases
  have lX := HX.out
  have lY := HY.out
  have lZ := HZ.out
  have rkx := rows_two lZ lX
  have Rkx := Lib.hid rkx
  clear rkx
  go_wp2_with fail
  refine (concat_calls _ _ [Z, X] _ Rkx.out (by have h1 := HZ8.out; have h2 := HX8.out; simp; omega)).mono ?_
  rintro e w8 ⟨kxv, rfl, ho, hb⟩
  have skx := ho.isSl
  have hk : Ints w8 kxv (Z ++ X) := by have := ho.ints; simpa using this
  have sb := Below.chain ((Below.refl (World.heap w7).size w7).alloc (Nat.le_refl _) _) hb
  have Kkx := Lib.hid hk
  replace lX := lX.below sb; replace lY := lY.below sb; replace lZ := lZ.below sb
  replace HB := Lib.hid (Below.chain HB.out sb)
  clear ho hb hk Rkx
  have MX := Lib.hid lX; have MY := Lib.hid lY; have MZ := Lib.hid lZ
  clear lX lY lZ
  have lY := MY.out
  have lX := MX.out
  have lZ := MZ.out
  have rky := rows_two lZ lY
  have Rky := Lib.hid rky
  clear rky
  go_wp2_with fail
  refine (concat_calls _ _ [Z, Y] _ Rky.out (by have h1 := HZ8.out; have h2 := HY8.out; simp; omega)).mono ?_
  rintro e w9 ⟨kyv, rfl, ho, hb⟩
  have sky := ho.isSl
  have hk : Ints w9 kyv (Z ++ Y) := by have := ho.ints; simpa using this
  have sb := Below.chain ((Below.refl (World.heap w8).size w8).alloc (Nat.le_refl _) _) hb
  have Kky := Lib.hid hk
  replace lX := lX.below sb; replace lY := lY.below sb; replace lZ := lZ.below sb
  replace HB := Lib.hid (Below.chain HB.out sb)
  replace Kkx := Lib.hid (Kkx.out.below sb)
  clear ho hb hk Rky
  replace HX := Lib.hid lX; replace HY := Lib.hid lY
  clear lX lY lZ sb MX MY MZ
  go_wp2_with fail
  refine (dCompare_calls n kxv kyv (Z ++ X) (Z ++ Y) _ Kkx.out Kky.out (by omega) (by omega) (HZL.out.app HXL.out) (HZL.out.app HYL.out) (by have h1 := HZ8.out; have h2 := HX8.out; rw [List.length_append]; omega) (by have h1 := HZ8.out; have h2 := HY8.out; rw [List.length_append]; omega) (ok4 hn5 HXL.out HYL.out HZL.out HX8.out HY8.out)).mono ?_
  rintro e w10 ⟨s5, rfl, hr, hs, hb⟩
  obtain ⟨ps5, hp⟩ : ∃ p, -s5 = p := ⟨_, rfl⟩
  rw [hp]
  have HPs5 := Lib.hid hp
  clear hp
  have Hs5 := Lib.hid hs
  replace HX := Lib.hid (HX.out.below hb); replace HY := Lib.hid (HY.out.below hb)
  replace HB := Lib.hid (Below.chain HB.out hb)
  clear hr hs hb
  go_wp2_with fail
  refine (gequal_calls n _ _ X Y _ HX.out HY.out (by omega) (by omega) HXB.out HYB.out (by have := HX8.out; omega) (by have := HY8.out; omega)).mono ?_
  rintro e w11 ⟨c, d, rfl, hc, hd, hb⟩
  obtain ⟨p1, p2, p3, p4⟩ := order_law hn2 (by omega) HXL.out HYL.out HZL.out Hs1.out Hs2.out Hs3.out Hs4.out Hs5.out hc hd
  replace HB := Lib.hid (Below.chain HB.out hb)
  clear hc hd hb
  obtain ⟨I, hI⟩ : ∃ I, decide (c = d) = I := ⟨_, rfl⟩
  rw [hI]
  have h1 := HPs1.out; have h2 := HPs2.out; have h3 := HPs3.out; have h4 := HPs4.out; have h5 := HPs5.out
  have LW := Lib.hid (show I = decide (ps1 = 0) ∧ (ps1 = ps3 → ps1 ≠ 0 → ps4 = ps1) ∧ ps2 = -ps1 ∧ ps5 = ps1 ∧ -1 ≤ ps1 ∧ ps1 ≤ 1 from ⟨by rw [← hI, decide_eq_decide, ← p3]; omega, fun a b => by have := p4 (by omega) (by omega); omega, by omega, by omega, by omega, by omega⟩)
  clear p1 p2 p3 p4 hI h1 h2 h3 h4 h5 hrs1 hrs2 hrs3 hrs4
  go_wp2_with fail
  refine (ordered_calls _).mono ?_
  rintro e w12 ⟨rfl, hb⟩
  replace HB := Lib.hid (Below.chain HB.out hb)
  clear hb
  obtain ⟨l1, l2, l3, l4, l5, l6⟩ := LW.out
  have wq : IntKind.i64.wrap (-ps2) = ps1 := by rw [l3, Int.neg_neg]; exact IntWalk.i64_in _ ⟨by omega, by omega⟩
  have e0 : (ps1 == ps1) = true := beq_self_eq_true ps1
  have e1 : (ps1 == ps5) = true := by rw [l4]; exact e0
  have g1 : ps1 ≥ -1 := l5
  have g2 : ps1 ≤ 1 := l6
  have g3 : decide (ps1 ≥ -1) = true := decide_eq_true l5
  have g4 : decide (ps1 ≤ 1) = true := decide_eq_true l6
  clear l3 l4 l5 l6 LW
  by_cases h0 : ps1 = 0
  · obtain rfl : I = true := by rw [l1]; exact decide_eq_true h0
    have e2 : (ps1 == 0) = true := by rw [beq_iff_eq]; exact h0
    clear h0 l1 l2
    cases e3 : (ps1 != ps3)
    · go_wp2_with fail
      go_ret
      exact ⟨rfl, HB.out⟩
    · go_wp2_with fail
      go_ret
      exact ⟨rfl, HB.out⟩
  · obtain rfl : I = false := by rw [l1]; exact decide_eq_false h0
    have e2 : (ps1 == 0) = false := by rw [beq_eq_false_iff_ne]; exact h0
    cases e3 : (ps1 != ps3)
    · have e4 : (ps4 == ps1) = true := by
        rw [beq_iff_eq]
        refine l2 ?_ h0
        have := e3
        simpa using this
      clear h0 l1 l2
      go_wp2_with fail
      go_ret
      exact ⟨rfl, HB.out⟩
    · clear h0 l1 l2
      go_wp2_with fail
      go_ret
      exact ⟨rfl, HB.out⟩
end Go.Proofs.Ytplekfgadbjgdaa


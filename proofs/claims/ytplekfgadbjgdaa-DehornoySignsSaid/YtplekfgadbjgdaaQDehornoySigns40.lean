/- dehornoySigns: for every input the statement returns true, and nothing that was there has changed. -/
import Derived.Test.YtplekfgadbjgdaaQDehornoySigns0
import Derived.Test.YtplekfgadbjgdaaQDehornoySigns1
import Derived.Test.YtplekfgadbjgdaaQDehornoySigns2
import Derived.Test.YtplekfgadbjgdaaQDehornoySigns3
import Derived.Test.YtplekfgadbjgdaaQDehornoySigns4
import Derived.Test.YtplekfgadbjgdaaQDehornoySigns5
import Derived.Test.YtplekfgadbjgdaaQDehornoySigns6
import Derived.Test.YtplekfgadbjgdaaQDehornoySigns7
import Derived.Test.YtplekfgadbjgdaaQDehornoySigns8
import Derived.Test.YtplekfgadbjgdaaQDehornoySigns9
import Derived.Test.YtplekfgadbjgdaaQDehornoySigns10
import Derived.Test.YtplekfgadbjgdaaQDehornoySigns11
import Derived.Test.YtplekfgadbjgdaaQDehornoySigns12
import Derived.Test.YtplekfgadbjgdaaQDehornoySigns13
import Derived.Test.YtplekfgadbjgdaaQDehornoySigns14
import Derived.Test.YtplekfgadbjgdaaQDehornoySigns15
import Derived.Test.YtplekfgadbjgdaaQDehornoySigns16
import Derived.Test.YtplekfgadbjgdaaQDehornoySigns17
import Derived.Test.YtplekfgadbjgdaaQDehornoySigns18
import Derived.Test.YtplekfgadbjgdaaQDehornoySigns19
import Derived.Test.YtplekfgadbjgdaaQDehornoySigns20
import Derived.Test.YtplekfgadbjgdaaQDehornoySigns21
import Derived.Test.YtplekfgadbjgdaaQDehornoySigns22
import Derived.Test.YtplekfgadbjgdaaQDehornoySigns23
import Derived.Test.YtplekfgadbjgdaaQDehornoySigns24
import Derived.Test.YtplekfgadbjgdaaQDehornoySigns25
import Derived.Test.YtplekfgadbjgdaaQDehornoySigns26
import Derived.Test.YtplekfgadbjgdaaQDehornoySigns27
import Derived.Test.YtplekfgadbjgdaaQDehornoySigns28
import Derived.Test.YtplekfgadbjgdaaQDehornoySigns29
import Derived.Test.YtplekfgadbjgdaaQDehornoySigns30
import Derived.Test.YtplekfgadbjgdaaQDehornoySigns31
import Derived.Test.YtplekfgadbjgdaaQDehornoySigns32
import Derived.Test.YtplekfgadbjgdaaQDehornoySigns33
import Derived.Test.YtplekfgadbjgdaaQDehornoySigns34
import Derived.Test.YtplekfgadbjgdaaQDehornoySigns35
import Derived.Test.YtplekfgadbjgdaaQDehornoySigns36
import Derived.Test.YtplekfgadbjgdaaQDehornoySigns37
import Derived.Test.YtplekfgadbjgdaaQDehornoySigns38
import Derived.Test.YtplekfgadbjgdaaQDehornoySigns39
import Derived.RangeFuncNested
import Derived.RangeFuncCalls
import Derived.OrdersIn
import Derived.OrdersHeld
import Derived.Deep.RegionHeld
namespace Go.Proofs.Ytplekfgadbjgdaa
open Go.RowKit Go.Sl

set_option maxHeartbeats 4000000 in
set_option maxRecDepth 100000 in
theorem ordered_calls (w : World) :
    Calls Try.prog 49 #[] w fun e w' => e = .returned (.bool true) ∧ Below w.heap.size w w' := by
  have l1 : Ints ((w.alloc (.cells #[.int .i64 2] 3)).alloc (.cells #[.int .i64 1] 3)) (.slice (some ⟨w.heap.size, 0, none⟩) 1 1) [2] := (ints_lit [2] rfl rfl rfl (by decide)).alloc _
  have l2 : Ints ((w.alloc (.cells #[.int .i64 2] 3)).alloc (.cells #[.int .i64 1] 3)) (.slice (some ⟨w.heap.size + 1, 0, none⟩) 1 1) [1] := ints_lit [1] (by simp) rfl rfl (by decide)
  have h2 : LtW 3 [2] := fun x hx => by rw [List.mem_singleton.1 hx]; exact ⟨by decide, by decide⟩
  have h1 : LtW 3 [1] := fun x hx => by rw [List.mem_singleton.1 hx]; exact ⟨by decide, by decide⟩
  have hc : Clean [-2, 1] := by
    have c1 : Clean [-2] := clean_snoc (V := []) clean_nil (fun ⟨P, M, e, _⟩ => by simp at e)
    refine clean_snoc (V := [-2]) c1 fun ⟨P, M, e, _⟩ => ?_
    have : (-1 : Int) ∈ [-2] := by rw [e]; simp
    simp at this
  have hl : LtW 3 [-2, 1] := fun x hx => by
    simp only [List.mem_cons, List.not_mem_nil, or_false] at hx
    rcases hx with rfl | rfl <;> exact ⟨by decide, by decide⟩
  have hsg : SgnOf 3 (invL [2] ++ [1]) 1 := ⟨[-2, 1], hc, hl, .refl _, .inr ⟨1, by decide, .inl rfl, fun x hx => by
    simp only [List.mem_cons, List.not_mem_nil, or_false] at hx
    rcases hx with rfl | rfl <;> exact ⟨by decide, fun _ => by omega⟩, 1, by simp, rfl⟩⟩
  have HC := Lib.hid (dCompare_calls 3 _ _ [2] [1] _ l1 l2 (by decide) (by decide) h2 h1 (by decide))
  have HS := Lib.hid hsg
  clear l1 l2 h1 h2 hc hl hsg
  go_enter Try.func49, Try.ntmps49
  go_wp2_with fail
  refine HC.out.mono ?_
  rintro e w1 ⟨s, rfl, -, hs, hb⟩
  obtain rfl := sgn_uniq hs HS.out (.refl _)
  have HB := Lib.hid (Below.chain (((Below.refl w.heap.size w).alloc (Nat.le_refl _) _).alloc (by simp) _) hb)
  clear hs hb
  go_wp2_with fail
  go_ret
  exact ⟨rfl, HB.out⟩

theorem abs_take {xs : List Int} {q : Nat} (h : q < xs.length) : (xs.take (q + 1)).map (fun x => ((x.natAbs : Nat) : Int)) = (xs.take q).map (fun x => ((x.natAbs : Nat) : Int)) ++ [((nth xs q).natAbs : Int)] := by
  rw [List.take_succ_eq_append_getElem h, List.map_append, nth_lt h]; rfl
theorem same_cn {n : Nat} (h2 : 2 ≤ n) (h5 : n ≤ 5) {xs ys : List Int} (hx : LtW n xs) (he : BE n ys xs) {c d : St} (hc : Cn n (mulW n (0, []) xs) c) (hd : Cn n (mulW n (0, []) ys) d) : c = d := by
  have h1 : Eqv n (mulW n (0, []) xs) (mulW n (0, []) ys) := he.symm.eqv (by omega) hx (good_nil n)
  exact cn_unique ((eqv_cn (by omega) h2 h1 c).1 hc) hd
/-- All that is asked of the signs. -/
theorem signs_law {n : Nat} {xs ys : List Int} {s t u : Int} (hx : LtW n xs) (hcl : Clean ys) (hy : LtW n ys) (he : BE n ys xs) (hs : SgnOf n xs s) (ht : SgnOf n (invL xs) t) (hu : SgnOf n (xs.map fun x => ((x.natAbs : Nat) : Int)) u) :
    s = -t ∧ u = min (xs.length : Int) 1 ∧ ((ys = [] ∧ s = 0) ∨ ∃ k, 0 < k ∧ (s = 1 ∨ s = -1) ∧ SPos k s ys) := by
  refine ⟨sgn_neg_word hs hx ht, ?_, ?_⟩
  · have hp : ∀ x ∈ xs.map (fun x => ((x.natAbs : Nat) : Int)), 0 < x := fun x h => by
      obtain ⟨y, hy, rfl⟩ := List.mem_map.1 h
      have := (hx y hy).1
      omega
    have hpl : LtW n (xs.map fun x => ((x.natAbs : Nat) : Int)) := fun x h => by
      obtain ⟨y, hy, rfl⟩ := List.mem_map.1 h
      have := hx y hy
      exact ⟨by have := this.1; omega, by have := this.2; omega⟩
    obtain ⟨s', h1, h2⟩ := sgn_of_word hpl (clean_posword hp)
    obtain rfl := sgn_uniq hu h1 (.refl _)
    rcases h2 with ⟨h3, rfl⟩ | ⟨k, hk, hs1, hm, z, hz, hzk⟩
    · have : xs = [] := by simpa using h3
      rw [this]; rfl
    · have h3 := (hm z hz).2 hzk
      have h4 := hp z hz
      have : u = 1 := by rcases hs1 with rfl | rfl; rfl; omega
      have hl : 0 < xs.length := by have := List.length_pos_of_mem hz; simpa using this
      omega
  · obtain ⟨s', h1, h2⟩ := sgn_of_word hy hcl
    obtain rfl := sgn_uniq hs h1 he.symm
    exact h2

set_option maxHeartbeats 16000000 in
set_option maxRecDepth 100000 in
theorem dehornoySigns_true {w0 : World} (n0 : Int) (hn0 : I64 n0) (wv : Value) (zs : List Int) (hw0 : Ints w0 wv zs) (hz0 : ∀ x ∈ zs, I64 x) (w : World) (hw : w = w0 := by rfl) :
    Calls Try.prog 11 #[.int .i64 n0, wv] w fun e w' => e = .returned (.bool true) ∧ Below w.heap.size w w' := by
  subst hw
  have swv := hw0.isSl
  obtain ⟨n, hN⟩ : ∃ n : Nat, 2 + n0 % (5 - 1) = (n : Int) := ⟨(2 + n0 % (5 - 1)).toNat, by omega⟩
  have hn2 : 2 ≤ n := by omega
  have hn5 : n ≤ 5 := by omega
  have q1 : IntKind.i64.wrap ((n : Int) - 1) = (n : Int) - 1 := IntWalk.i64_in _ ⟨by omega, by omega⟩
  have HN := Lib.hid hN; have HW := Lib.hid hw0; have HZ := Lib.hid hz0
  clear hN hw0 hz0
  go_enter Try.func11, Try.ntmps11
  go_wp2_with fail
  refine (strands_calls n0 5 _ hn0 (by decide) (by decide)).mono ?_
  rw [HN.out]
  rintro e w' ⟨rfl, rfl⟩
  go_wp2_with fail
  refine (word_calls ((n : Int) - 1) wv zs 12 _ HW.out HZ.out (by omega) (by omega) (by decide)).mono ?_
  obtain ⟨X, hX⟩ : ∃ X, wordL ((n : Int) - 1) zs 12 = X := ⟨_, rfl⟩
  have hXb : BWord (n : Int) X := by rw [← hX]; exact wordL_bw (by omega) zs 12
  have hXl := bw_lt hXb
  have hX12 : X.length ≤ 12 := by rw [← hX]; exact wordL_length _ _ _
  rw [hX]
  rintro e w1 ⟨xv, rfl, hx, hb⟩
  have hxi := hx.ints
  have sx := hxi.isSl
  have lx := hxi.len
  obtain ⟨L, hL⟩ : ∃ L, X.length = L := ⟨_, rfl⟩
  rw [hL] at lx
  have HX := Lib.hid hxi; have HXB := Lib.hid hXb; have HXL := Lib.hid hXl; have HX12 := Lib.hid hX12; have HB := Lib.hid hb; have HL := Lib.hid hL
  clear hX hx hxi hb hXb hXl hX12 hL
  go_wp2_with fail
  refine (dReduce_calls n xv X _ HX.out (by omega) hn5 HXL.out HX12.out).mono ?_
  rintro e w2 ⟨vv, ys, rfl, hv, hcl, hyl, hye, hb⟩
  have sv := hv.isSl
  have hvi := hv.ints
  have lv := hvi.len
  obtain ⟨Y, hY⟩ : ∃ Y, ys.length = Y := ⟨_, rfl⟩
  rw [hY] at lv
  have i63 := sv.i63
  rw [lv] at i63
  have HV := Lib.hid hvi; have HRD := Lib.hid (And.intro hcl (And.intro hyl hye)); have HY := Lib.hid hY
  replace HX := Lib.hid (HX.out.below hb); replace HB := Lib.hid (Below.chain HB.out hb)
  clear hv hvi hcl hyl hye hb hY
  go_wp2_with fail
  refine (dSign_calls n xv X _ HX.out (by omega) hn5 HXL.out HX12.out).mono ?_
  rintro e w3 ⟨s, rfl, hs3, hs, hb⟩
  have HS := Lib.hid hs; have HS3 := Lib.hid hs3
  replace HX := Lib.hid (HX.out.below hb); replace HV := Lib.hid (HV.out.below hb); replace HB := Lib.hid (Below.chain HB.out hb)
  clear hs hb hs3
  go_wp2_with fail
  refine (binverse_calls (n : Int) xv X _ HX.out (by omega) (by omega) HXB.out (by have := HX12.out; omega)).mono ?_
  rintro e w4 ⟨yv, rfl, hy, hb⟩
  have syv := hy.isSl
  have HYV := Lib.hid hy.ints
  replace HX := Lib.hid (HX.out.below hb); replace HV := Lib.hid (HV.out.below hb); replace HB := Lib.hid (Below.chain HB.out hb)
  clear hy hb
  have hil : LtW n (invL X) := bw_lt HXB.out.inv
  have HIL := Lib.hid hil
  clear hil
  go_wp2_with fail
  refine (dSign_calls n yv (invL X) _ HYV.out (by omega) hn5 HIL.out (by rw [invL_len]; exact HX12.out)).mono ?_
  rintro e w5 ⟨t, rfl, ht3, ht, hb⟩
  have HT := Lib.hid ht; have HT3 := Lib.hid ht3
  replace HX := Lib.hid (HX.out.below hb); replace HV := Lib.hid (HV.out.below hb); replace HB := Lib.hid (Below.chain HB.out hb)
  clear ht hb ht3
  go_wp2_with fail
  go_loopw [14, 53] (fun o i wr => ∃ q : Nat, i = .int .i64 q ∧ q ≤ L ∧ OwnI wr w5.heap.size o ((X.take q).map fun x => ((x.natAbs : Nat) : Int)) ∧ Below w5.heap.size w5 wr) (fun _ i _ => L - (intOf i).toNat)
  case atStart => exact ⟨0, rfl, Nat.zero_le _, by simpa using ownI_nil w5 w5.heap.size, Below.refl _ _⟩
  case round =>
    obtain ⟨q, rfl, hq, ho, hbb⟩ := hrel
    have so := ho.isSl
    have hbs := hbb.size
    have HO := Lib.hid ho; have HBB := Lib.hid hbb
    clear ho hbb
    by_cases hlt : q < L
    · have hqX : q < X.length := by rw [HL.out]; exact hlt
      have cx := (HX.out.below HBB.out).cell hqX
      have hst := abs_take hqX
      have hxb := HXB.out _ (nth_mem hqX)
      obtain ⟨x, hx⟩ : ∃ x, nth X q = x := ⟨_, rfl⟩
      rw [hx] at cx hst hxb
      have hxr : -10 ≤ x ∧ x ≤ 10 := by omega
      have w1' : IntKind.i64.wrap (-x) = -x := IntWalk.i64_in _ ⟨by omega, by omega⟩
      have hmx : max x (-x) = (x.natAbs : Int) := by omega
      have hL12 := HX12.out
      rw [HL.out] at hL12
      have hml : ((X.take q).map fun x => ((x.natAbs : Nat) : Int)).length ≤ 100 := by rw [List.length_map, List.length_take]; omega
      have HST := Lib.hid hst
      clear hst hx hxb
      go_wp2_with (at_builtin; refine wpList_push (v := u14) rfl _ _ rfl rfl rfl HO.out hbs (by omega) ?_; intro v' w' ho hg hr; have s2 := ho.isSl)
      have hb5 := Below_of_grown HBB.out hg hbs (fun b hb => (HO.out.lt b hb).1)
      go_roundw
      case rel => exact ⟨q + 1, by go_num, hlt, by rw [HST.out]; exact ho, hb5⟩
      case measure => (simp [intOf]; try omega)
    · obtain rfl : q = L := by omega
      have hfull := HO.out
      rw [List.take_of_length_le (by rw [HL.out]; omega)] at hfull
      have hpl : LtW n (X.map fun x => ((x.natAbs : Nat) : Int)) := fun x h => by
        obtain ⟨y, hy, rfl⟩ := List.mem_map.1 h
        have := HXL.out y hy
        exact ⟨by have := this.1; omega, by have := this.2; omega⟩
      have HPI := Lib.hid hfull.ints; have HPL := Lib.hid hpl
      replace HX := Lib.hid (HX.out.below HBB.out); replace HV := Lib.hid (HV.out.below HBB.out); replace HB := Lib.hid (Below.chain HB.out HBB.out)
      clear hfull hpl HO HBB hbs
      go_wp2_with fail
      refine (dSign_calls n _ _ _ HPI.out (by omega) hn5 HPL.out (by rw [List.length_map]; exact HX12.out)).mono ?_
      rintro e w6 ⟨u, rfl, hu3, hu, hb⟩
      obtain ⟨l1, l2, l3⟩ := signs_law HXL.out HRD.out.1 HRD.out.2.1 HRD.out.2.2 HS.out HT.out hu
      rw [HL.out] at l2
      replace HX := Lib.hid (HX.out.below hb); replace HV := Lib.hid (HV.out.below hb); replace HB := Lib.hid (Below.chain HB.out hb)
      clear hu hb hu3
      go_wp2_with fail
      refine (ordered_calls _).mono ?_
      rintro e w7 ⟨rfl, hb⟩
      replace HX := Lib.hid (HX.out.below hb); replace HV := Lib.hid (HV.out.below hb); replace HB := Lib.hid (Below.chain HB.out hb)
      clear hb
      rcases l3 with ⟨hnil, h0⟩ | ⟨k, hk, hs1, hsp⟩
      · -- the trivial braid
        obtain rfl : t = 0 := by omega
        obtain rfl : s = 0 := h0
        have hY0 : Y = 0 := by rw [← HY.out, hnil]; rfl
        have y0 : ((Y : Int) == 0) = true := by rw [beq_iff_eq]; omega
        have y1 : (Y : Int) = 0 := by omega
        have w0' : IntKind.i64.wrap 0 = 0 := by decide
        have HNIL := Lib.hid hnil; have HL2 := Lib.hid l2
        clear l1 hnil
        go_wp2_with fail
        go_loop [19] (fun i => ∃ q : Nat, i = .int .i64 q ∧ 1 ≤ q ∧ q ≤ n) (fun i => n - (intOf i).toNat)
        case atStart => exact ⟨1, rfl, Nat.le_refl _, by omega⟩
        case round =>
          obtain ⟨i, rfl, hi1, hi2⟩ := hrel
          have wi : IntKind.i64.wrap (-(i : Int)) = -(i : Int) := IntWalk.i64_in _ ⟨by omega, by omega⟩
          by_cases hlt : i < n
          · go_wp2_with fail
            refine (contains_no vv ys _ _ HV.out (by rw [HNIL.out]; simp)).mono ?_
            rintro e w' ⟨rfl, rfl⟩
            go_wp2_with fail
            refine (contains_no vv ys _ _ HV.out (by rw [HNIL.out]; simp)).mono ?_
            rintro e w' ⟨rfl, rfl⟩
            go_wp2_with fail
            go_round
            case rel => exact ⟨i + 1, by go_num, by omega, by omega⟩
            case measure => (simp [intOf]; try omega)
          · obtain rfl : n = i := by omega
            by_cases h30 : Y ≤ 30
            · have hYB := lt_bw HRD.out.2.1
              have n30 : ¬ (Y : Int) > 30 := by omega
              have HG := Lib.hid (gequal_calls n xv vv X ys _ HX.out HV.out (by omega) (by omega) HXB.out hYB (by have := HX12.out; omega) (by rw [HY.out]; exact h30))
              clear hYB h30
              go_wp2_with fail
              refine HG.out.mono ?_
              rintro e w8 ⟨c, d, rfl, hc, hd, hb⟩
              have hcd : c = d := same_cn hn2 hn5 HXL.out HRD.out.2.2 hc hd
              have hdec : decide (c = d) = true := decide_eq_true hcd
              rw [hdec]
              have HB8 := Lib.hid (Below.chain HB.out hb)
              clear hc hd hb hcd hdec
              go_wp2_with fail
              go_ret
              exact ⟨rfl, HB8.out⟩
            · have n30 : (Y : Int) > 30 := by omega
              clear h30
              first
              | (exfalso; omega)
              | (go_wp2_with fail
                 go_ret
                 exact ⟨rfl, HB.out⟩)
      · have hz : s * (k : Int) ∈ ys ∧ ¬ -(s * (k : Int)) ∈ ys ∧ ∀ j : Nat, 0 < j → j < k → ¬ (j : Int) ∈ ys ∧ ¬ -(j : Int) ∈ ys := by
          obtain ⟨hm, z, hz, hzk⟩ := hsp
          have h2 := (hm z hz).2 hzk
          refine ⟨?_, fun h => ?_, fun j hj hjk => ⟨fun h => ?_, fun h => ?_⟩⟩
          · have : z = s * (k : Int) := by rcases hs1 with rfl | rfl <;> omega
            rw [← this]; exact hz
          · have h3 := (hm _ h).2 (by rcases hs1 with rfl | rfl <;> omega)
            rcases hs1 with rfl | rfl <;> omega
          · have := (hm _ h).1; omega
          · have := (hm _ h).1; omega
        have hkn : k < n := by
          have := (HRD.out.2.1 _ hz.1).2
          rcases hs1 with rfl | rfl <;> omega
        have hYp : 0 < Y := by rw [← HY.out]; exact List.length_pos_of_mem hz.1
        have y0 : ((Y : Int) == 0) = false := by rw [beq_eq_false_iff_ne]; omega
        have y1 : ¬ (Y : Int) = 0 := by omega
        have HZK := Lib.hid hz
        clear hz hsp hYp
        rcases hs1 with rfl | rfl
        · obtain rfl : t = -1 := by omega
          have w1' : IntKind.i64.wrap (-(-1)) = 1 := by decide
          clear l1
          go_wp2_with fail
          go_loop [19] (fun i => ∃ q : Nat, i = .int .i64 q ∧ 1 ≤ q ∧ q ≤ k) (fun i => n - (intOf i).toNat)
          case atStart => exact ⟨1, rfl, Nat.le_refl _, hk⟩
          case round =>
            obtain ⟨i, rfl, hi1, hi2⟩ := hrel
            have wi : IntKind.i64.wrap (-(i : Int)) = -(i : Int) := IntWalk.i64_in _ ⟨by omega, by omega⟩
            have hin : (i : Int) < (n : Int) := by omega
            by_cases hlt : i < k
            · go_wp2_with fail
              refine (contains_no vv ys _ _ HV.out (HZK.out.2.2 i (by omega) hlt).1).mono ?_
              rintro e w' ⟨rfl, rfl⟩
              go_wp2_with fail
              refine (contains_no vv ys _ _ HV.out (HZK.out.2.2 i (by omega) hlt).2).mono ?_
              rintro e w' ⟨rfl, rfl⟩
              go_wp2_with fail
              go_round
              case rel => exact ⟨i + 1, by go_num, by omega, by omega⟩
              case measure => (simp [intOf]; try omega)
            · obtain rfl : i = k := by omega
              have m1 : (i : Int) ∈ ys := by have := HZK.out.1; rwa [Int.one_mul] at this
              have m2 : ¬ -(i : Int) ∈ ys := by have := HZK.out.2.1; rwa [Int.one_mul] at this
              have wm : IntKind.i64.wrap (-(i : Int) * 1) = -(i : Int) := by rw [Int.mul_one]; exact wi
              have M1 := Lib.hid m1; have M2 := Lib.hid m2
              clear m1 m2
              go_wp2_with fail
              refine (contains_yes vv ys _ _ HV.out M1.out).mono ?_
              rintro e w' ⟨rfl, rfl⟩
              go_wp2_with fail
              refine (contains_no vv ys _ _ HV.out M2.out).mono ?_
              rintro e w' ⟨rfl, rfl⟩
              by_cases h30 : Y ≤ 30
              · have hYB := lt_bw HRD.out.2.1
                have n30 : ¬ (Y : Int) > 30 := by omega
                have HG := Lib.hid (gequal_calls n xv vv X ys _ HX.out HV.out (by omega) (by omega) HXB.out hYB (by have := HX12.out; omega) (by rw [HY.out]; exact h30))
                clear hYB h30
                go_wp2_with fail
                refine HG.out.mono ?_
                rintro e w8 ⟨c, d, rfl, hc, hd, hb⟩
                have hcd : c = d := same_cn hn2 hn5 HXL.out HRD.out.2.2 hc hd
                have hdec : decide (c = d) = true := decide_eq_true hcd
                rw [hdec]
                have HB8 := Lib.hid (Below.chain HB.out hb)
                clear hc hd hb hcd hdec
                go_wp2_with fail
                go_ret
                exact ⟨rfl, HB8.out⟩
              · have n30 : (Y : Int) > 30 := by omega
                clear h30
                first
                | (exfalso; omega)
                | (go_wp2_with fail
                   go_ret
                   exact ⟨rfl, HB.out⟩)
        · obtain rfl : t = 1 := by omega
          have w1' : IntKind.i64.wrap (-1) = -1 := by decide
          clear l1
          go_wp2_with fail
          go_loop [19] (fun i => ∃ q : Nat, i = .int .i64 q ∧ 1 ≤ q ∧ q ≤ k) (fun i => n - (intOf i).toNat)
          case atStart => exact ⟨1, rfl, Nat.le_refl _, hk⟩
          case round =>
            obtain ⟨i, rfl, hi1, hi2⟩ := hrel
            have wi : IntKind.i64.wrap (-(i : Int)) = -(i : Int) := IntWalk.i64_in _ ⟨by omega, by omega⟩
            have hin : (i : Int) < (n : Int) := by omega
            by_cases hlt : i < k
            · go_wp2_with fail
              refine (contains_no vv ys _ _ HV.out (HZK.out.2.2 i (by omega) hlt).1).mono ?_
              rintro e w' ⟨rfl, rfl⟩
              go_wp2_with fail
              refine (contains_no vv ys _ _ HV.out (HZK.out.2.2 i (by omega) hlt).2).mono ?_
              rintro e w' ⟨rfl, rfl⟩
              go_wp2_with fail
              go_round
              case rel => exact ⟨i + 1, by go_num, by omega, by omega⟩
              case measure => (simp [intOf]; try omega)
            · obtain rfl : i = k := by omega
              have m1 : ¬ (i : Int) ∈ ys := by have := HZK.out.2.1; rwa [Int.neg_one_mul, Int.neg_neg] at this
              have m2 : -(i : Int) ∈ ys := by have := HZK.out.1; rwa [Int.neg_one_mul] at this
              have wm : IntKind.i64.wrap (-(i : Int) * -1) = (i : Int) := by rw [Int.neg_mul_neg, Int.mul_one]; exact IntWalk.i64_in _ ⟨by omega, by omega⟩
              have M1 := Lib.hid m1; have M2 := Lib.hid m2
              clear m1 m2
              go_wp2_with fail
              refine (contains_no vv ys _ _ HV.out M1.out).mono ?_
              rintro e w' ⟨rfl, rfl⟩
              go_wp2_with fail
              refine (contains_yes vv ys _ _ HV.out M2.out).mono ?_
              rintro e w' ⟨rfl, rfl⟩
              go_wp2_with fail
              refine (contains_no vv ys _ _ HV.out M1.out).mono ?_
              rintro e w' ⟨rfl, rfl⟩
              by_cases h30 : Y ≤ 30
              · have hYB := lt_bw HRD.out.2.1
                have n30 : ¬ (Y : Int) > 30 := by omega
                have HG := Lib.hid (gequal_calls n xv vv X ys _ HX.out HV.out (by omega) (by omega) HXB.out hYB (by have := HX12.out; omega) (by rw [HY.out]; exact h30))
                clear hYB h30
                go_wp2_with fail
                refine HG.out.mono ?_
                rintro e w8 ⟨c, d, rfl, hc, hd, hb⟩
                have hcd : c = d := same_cn hn2 hn5 HXL.out HRD.out.2.2 hc hd
                have hdec : decide (c = d) = true := decide_eq_true hcd
                rw [hdec]
                have HB8 := Lib.hid (Below.chain HB.out hb)
                clear hc hd hb hcd hdec
                go_wp2_with fail
                go_ret
                exact ⟨rfl, HB8.out⟩
              · have n30 : (Y : Int) > 30 := by omega
                clear h30
                first
                | (exfalso; omega)
                | (go_wp2_with fail
                   go_ret
                   exact ⟨rfl, HB.out⟩)
end Go.Proofs.Ytplekfgadbjgdaa


/- perm.Order and Power walked. -/
import Derived.Test.YtpnbkoihglppnaaCycles
namespace Go.Proofs.Ytpnbkoihglppnaa
open Go.RowKit Go.Sl

set_option maxHeartbeats 1000000 in
theorem order_calls (a : Value) (xs : List Int) (w : World) (ha : Ints w a xs) (hp : IsPerm xs) (hs : xs.length ≤ 9) :
    Calls Try.prog 34 #[a] w fun e w' => ∃ m : Nat, e = .returned (.tuple #[.int .i64 m, .int .i64 0]) ∧ IsOrder xs m ∧ Below w.heap.size w w' := by
  have sa := ha.isSl
  have HA := Lib.hid ha; have HP := Lib.hid hp; have HS := Lib.hid hs
  clear ha hp hs
  go_enter Try.func34, Try.ntmps34
  go_wp2_with fail
  refine (check_calls a xs _ HA.out HP.out HS.out).mono ?_
  rintro e w' ⟨rfl, rfl⟩
  go_wp2_with fail
  refine (cycles_calls a xs _ HA.out HP.out HS.out).mono ?_
  rintro e w1 ⟨out, vs, rfl, ho, hsl, hok, hb1⟩
  have so := ho.1
  have lo := ho.2.1
  rw [Nat.mul_one] at lo
  have hord := hok.order HP.out HS.out
  obtain ⟨n, hn⟩ : ∃ n, vs.length = n := ⟨_, rfl⟩
  rw [hn] at lo
  have i63 := so.i63
  rw [← lo] at i63
  have hbound : ∀ k, 0 < lcmL ((vs.map vlen).take k) ∧ lcmL ((vs.map vlen).take k) ≤ 512 := fun k => by
    have h1 := lcmL_bound ((vs.map vlen).take k) fun l hl => hok.pos l (List.mem_of_mem_take hl)
    have h2 := sum_take_le (vs.map vlen) k
    have h3 : 2 ^ ((vs.map vlen).take k).sum ≤ 2 ^ 9 := Nat.pow_le_pow_right (by omega) (by have := hok.sum; have := HS.out; omega)
    exact ⟨h1.1, by omega⟩
  have helem : ∀ k, k < n → ∃ v, w1.cell? (vat out k) = some v ∧ IsSl v ∧ 0 < vlen v ∧ vlen v ≤ 9 ∧ lcmL ((vs.map vlen).take (k + 1)) = Nat.lcm (lcmL ((vs.map vlen).take k)) (vlen v) := fun k hk => by
    have hk2 : k < vs.length := by omega
    have hkm : k < (vs.map vlen).length := by simpa using hk2
    refine ⟨vs[k], ho.cell hk2, hsl _ (List.getElem_mem hk2), hok.pos _ (List.mem_map_of_mem (List.getElem_mem hk2)), ?_, ?_⟩
    · have h1 := hok.sum
      have h2 := HS.out
      have h3 : ∀ (L : List Nat) (x : Nat), x ∈ L → x ≤ L.sum := fun L x hx => by
        induction L with
        | nil => cases hx
        | cons y L ih =>
          rcases List.mem_cons.1 hx with rfl | h
          · simp
          · have := ih h; simp; omega
      have := h3 _ _ (List.mem_map_of_mem (f := vlen) (List.getElem_mem hk2))
      omega
    · rw [List.take_succ_eq_append_getElem hkm, lcmL_snoc]; simp
  have HO := Lib.hid hord; have HBD := Lib.hid hbound; have HE := Lib.hid helem; have HB1 := Lib.hid hb1; have HN := Lib.hid hn; have HLO := Lib.hid lo
  have lo' : vlen out = n := lo.symm
  clear hord hbound helem hb1 ho hsl hok hn lo
  go_wp2_with fail
  go_loopw [5, 18] (fun o i wr => ∃ (k m : Nat), k ≤ n ∧ i = .int .i64 k ∧ o = .int .i64 m ∧ m = lcmL ((vs.map vlen).take k) ∧ Below w1.heap.size w1 wr) (fun _ i _ => n - (intOf i).toNat)
  case atStart => exact ⟨0, 1, Nat.zero_le _, rfl, rfl, rfl, Below.refl _ _⟩
  case round =>
    obtain ⟨k, m, hk, rfl, rfl, hm, hbr⟩ := hrel
    obtain ⟨hm1, hm2⟩ := HBD.out k
    rw [← hm] at hm1 hm2
    by_cases hlt : k < n
    · obtain ⟨v, c1, sv, hv1, hv2, hnx⟩ := HE.out k hlt
      have c2 := hbr.cell (p := vat out k) (by exact World.block_lt_of_cell? w1 _ c1)
      rw [c1] at c2
      rw [← hm] at hnx
      obtain ⟨l, hl⟩ : ∃ l, vlen v = l := ⟨_, rfl⟩
      rw [hl] at hv1 hv2 hnx
      have HNX := Lib.hid hnx; have HBR := Lib.hid hbr
      clear hnx hbr hm c1
      go_wp2_with fail
      obtain ⟨W, hW⟩ : ∃ W : World, W = wr := ⟨_, rfl⟩
      subst hW
      go_loopw [8, 9] (fun x y wr => ∃ (p q : Nat), x = .int .i64 p ∧ y = .int .i64 q ∧ 0 < p ∧ p ≤ 512 ∧ q ≤ 512 ∧ Nat.gcd p q = Nat.gcd m l ∧ Below w1.heap.size w1 wr) (fun _ y _ => (intOf y).toNat)
      case atStart => exact ⟨m, l, rfl, rfl, hm1, hm2, by omega, rfl, HBR.out⟩
      case round =>
        obtain ⟨p, q, rfl, rfl, hp1, hp2, hq, hg, hbr⟩ := hrel
        have HG := Lib.hid hg; have HBR2 := Lib.hid hbr; clear hg hbr
        by_cases hz : q = 0
        · subst hz
          have hpg : p = Nat.gcd m l := by rw [← HG.out]; simp
          have hmod : m / p * l = Nat.lcm m l := by rw [hpg, lcm_step]
          have hle : Nat.lcm m l ≤ 512 := by rw [← HNX.out]; exact (HBD.out _).2
          have hdl : m / p ≤ m := Nat.div_le_self _ _
          obtain ⟨d, hd⟩ : ∃ d, d = m / p := ⟨_, rfl⟩
          rw [← hd] at hmod hdl
          have hdl2 : ((d : Int) * (l : Int)) = ((Nat.lcm m l : Nat) : Int) := by rw [← hmod]; simp
          have hval : wrap64 (wrap64 ((m : Int) / (p : Int)) * (l : Int)) = ((Nat.lcm m l : Nat) : Int) := by
            have e0 : (m : Int) / (p : Int) = (d : Int) := by rw [hd]; simp
            have e1 : wrap64 (d : Int) = d := by unfold wrap64; omega
            rw [e0, e1, hdl2]; unfold wrap64; omega
          have HVAL := Lib.hid hval
          have hp0 : ((p : Int) == 0) = false := by rw [beq_eq_false_iff_ne]; omega
          have HML := Lib.hid HNX.out
          clear hpg hmod hdl hd hdl2 hval
          go_wp2_with fail
          go_roundw
          case rel => exact ⟨k + 1, Nat.lcm m l, by omega, by go_num, congrArg _ HVAL.out, HML.out.symm, HBR2.out⟩
          case measure => simp [intOf]; omega
        · have hq1 : (0 : Int) < (q : Int) := by omega
          have hpq : (p : Int).tmod (q : Int) = ((p % q : Nat) : Int) := rfl
          have hml : p % q < q := Nat.mod_lt _ (by omega)
          obtain ⟨r, hr⟩ : ∃ r, r = p % q := ⟨_, rfl⟩
          have hpr : (p : Int).tmod (q : Int) = (r : Int) := by rw [hpq, hr]
          have hpr2 : IntKind.i64.wrap ((p : Int).tmod (q : Int)) = (r : Int) := by rw [hpr]; exact IntWalk.i64_in _ (by omega)
          have hnext : Nat.gcd q r = Nat.gcd m l := by
            rw [hr, ← HG.out, Nat.gcd_comm p, Nat.gcd_rec q p, Nat.gcd_comm]
          have hrq : r < q := by omega
          have hq0 : ((q : Int) == 0) = false := by rw [beq_eq_false_iff_ne]; omega
          have HNT := Lib.hid hnext
          clear hpq hml hr hnext hz
          go_wp2_with fail
          go_quiet (fail)
          go_wp2_with fail
          go_roundw
          case rel => exact ⟨q, r, by go_num, by go_num, by omega, by omega, by omega, HNT.out, HBR2.out.trans ((Below.drawn _).mono HBR2.out.size)⟩
          case measure => simp [intOf]; omega
    · have hm' : m = lcmL (vs.map vlen) := by rw [hm, List.take_of_length_le (by simp; rw [HN.out]; omega)]
      have hfin : IsOrder xs m := by rw [hm']; exact HO.out
      have HF := Lib.hid hfin; have HBR := Lib.hid (Below.chain HB1.out hbr)
      clear hfin hm hm' hbr
      go_wp2_with fail
      go_ret2
      exact ⟨m, rfl, HF.out, HBR.out⟩

set_option maxRecDepth 100000 in
theorem power_calls (a : Value) (xs : List Int) (k : Int) (w : World) (ha : Ints w a xs) (hp : IsPerm xs) (hs : xs.length ≤ 9) (hk1 : -100000 ≤ k) (hk2 : k ≤ 100000) :
    Calls Try.prog 46 #[a, .int .i64 k] w fun e w' => ∃ (m : Nat) (v : Value), e = .returned (.tuple #[v, .int .i64 0]) ∧ IsOrder xs m ∧ OwnI w' w.heap.size v (powL xs (k % m).toNat) ∧ Below w.heap.size w w' := by
  have sa := ha.isSl
  have la := ha.len
  have HA := Lib.hid ha; have HP := Lib.hid hp; have HS := Lib.hid hs
  clear ha hp
  go_enter Try.func46, Try.ntmps46
  go_wp2_with fail
  refine (order_calls a xs _ HA.out HP.out HS.out).mono ?_
  rintro e w1 ⟨m, rfl, hm, hb1⟩
  have hm1 := hm.pos
  have hm2 := hm.small
  have HM := Lib.hid hm; have HB1 := Lib.hid hb1
  clear hm hb1
  go_wp2_with fail
  refine (identity_calls xs.length _ (by omega)).mono ?_
  rintro e w2 ⟨v0, rfl, hv0, hb2⟩
  have s0 := hv0.isSl
  have HV0 := Lib.hid (hv0.low HB1.out.size); have HB2 := Lib.hid (Below.chain HB1.out hb2)
  clear hv0 hb2
  have hb := tmod_bounds k m (by omega)
  have he := emod_of_tmod k m (by omega)
  have e1 := Int.emod_nonneg k (b := (m : Int)) (by omega)
  have e2 := Int.emod_lt_of_pos k (b := (m : Int)) (by omega)
  obtain ⟨t, ht⟩ : ∃ t, (k % m).toNat = t := ⟨_, rfl⟩
  have hti : k % m = (t : Int) := by omega
  obtain ⟨r, hr⟩ : ∃ r, k.tmod m = r := ⟨_, rfl⟩
  rw [hr] at hb he
  have h1 : (r + m).tmod (m : Int) = (t : Int) := by
    rw [Int.tmod_eq_emod_of_nonneg (by omega), Int.add_emod_right, ← hti, ← hr]
    rw [emod_of_tmod (k.tmod m) m (by omega), he, hr]
    have : r.tmod (m : Int) = r := by rw [← hr, Int.tmod_tmod]
    rw [this]
  have h4 : (wrap64 (k.tmod m + m)).tmod (m : Int) = (t : Int) := by
    have e : wrap64 (k.tmod m + m) = r + m := by rw [hr]; unfold wrap64; omega
    rw [e, h1]
  have h5 : ((m : Int) == 0) = false := by rw [beq_eq_false_iff_ne]; omega
  have htm : t < m := by omega
  have HT := Lib.hid ht
  clear hb he e1 e2 hti hr h1 ht
  go_wp2_with fail
  go_loopw [8, 27] (fun o i wr => ∃ j : Nat, j ≤ t ∧ i = .int .i64 j ∧ OwnI wr w.heap.size o (powL xs j) ∧ Below w.heap.size w wr) (fun _ i _ => t - (intOf i).toNat)
  case atStart => exact ⟨0, Nat.zero_le _, rfl, HV0.out, HB2.out⟩
  case round =>
    obtain ⟨j, hj, rfl, ho, hbr⟩ := hrel
    have so := ho.isSl
    have HO := Lib.hid ho; have HBR := Lib.hid hbr
    clear ho hbr
    by_cases hlt : j < t
    · go_wp2_with fail
      refine (then_calls u8 a (powL xs j) xs _ HO.out.ints (HA.out.below HBR.out) (by rw [powL_length]; have := HS.out; omega) (by have := (powL_perm HP.out j).range; rwa [powL_length] at this)).mono ?_
      rintro e w5 ⟨v5, rfl, hv5, hb5⟩
      have s5 := hv5.isSl
      have HV5 := Lib.hid (hv5.low HBR.out.size); have HB5 := Lib.hid (Below.chain HBR.out hb5)
      clear hv5 hb5
      go_wp2_with fail
      go_roundw
      case rel => exact ⟨j + 1, by omega, by go_num, HV5.out, HB5.out⟩
      case measure => simp [intOf]; omega
    · obtain rfl : j = t := by omega
      go_wp2_with fail
      go_ret2
      exact ⟨m, _, rfl, HM.out, by rw [HT.out]; exact HO.out, HBR.out⟩

end Go.Proofs.Ytpnbkoihglppnaa

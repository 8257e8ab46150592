/- timbkeep1.product and turn, walked. -/
import Derived.Test.YtbopcejelddooaaDetLaw
namespace Go.Proofs.Ytbopcejelddooaa
open Go.RowKit Go.Sl

theorem sumTo_abs {f : Nat → Int} {B : Nat} (h : ∀ j, (f j).natAbs ≤ B) (n : Nat) : (sumTo f n).natAbs ≤ n * B := by
  induction n with
  | zero => simp [sumTo]
  | succ n ih => rw [sumTo, Nat.succ_mul]; have := h n; omega
theorem take_succ_nth (xs : List Int) (k : Nat) (h : k < xs.length) : xs.take (k + 1) = xs.take k ++ [nth xs k] := by
  rw [List.take_succ_eq_append_getElem h, nth_lt h]
theorem take_succ_nthr (xs : List (List Int)) (k : Nat) (h : k < xs.length) : xs.take (k + 1) = xs.take k ++ [nthr xs k] := by
  rw [List.take_succ_eq_append_getElem h, nthr_lt h]

set_option maxRecDepth 100000 in
set_option maxHeartbeats 1000000 in
theorem product_calls (a b : Value) (xss yss : List (List Int)) (n : Nat) (w : World) (ha : Rows2 w a xss) (hb : Rows2 w b yss) (hx : IsMat xss n n) (hy : IsMat yss n n) (h0 : 0 < n) :
    Calls Try.prog 19 #[a, b] w fun e w' => ∃ v, e = .returned v ∧ OwnR.apart w' w.heap.size v (prodL xss yss n) ∧ Below w.heap.size w w' := by
  obtain ⟨vs, ha⟩ := ha
  obtain ⟨us, hb⟩ := hb
  have sa := ha.isSl
  have la := ha.len
  have sb := hb.isSl
  have lb := hb.len
  rw [hx.rows] at la
  rw [hy.rows] at lb
  have hn6 := hx.hn
  have hxa := hx.abs
  have hya := hy.abs
  have HXA := Lib.hid hxa; have HYA := Lib.hid hya; clear hxa hya
  have HX := Lib.hid hx; have HY := Lib.hid hy; clear hx hy
  have HA := Lib.hid ha; have HB := Lib.hid hb; clear ha hb
  have hpl : (prodL xss yss n).length = n := prodL_length _ _ _
  have HPL := Lib.hid hpl; clear hpl
  go_enter Try.func19, Try.ntmps19
  go_wp2_with fail
  go_loopw [5, 15] (fun m i wr => ∃ q : Nat, q ≤ n ∧ i = .int .i64 q ∧ OwnR.apart wr w.heap.size m ((prodL xss yss n).take q) ∧ Below w.heap.size w wr) (fun _ i _ => n - (intOf i).toNat)
  case atStart => exact ⟨0, Nat.zero_le _, rfl, ownRA_nil _ _, Below.refl _ _⟩
  case round =>
    obtain ⟨q, hq, rfl, hm, hbr⟩ := hrel
    obtain ⟨W, hW⟩ : ∃ W : World, W = wr := ⟨_, rfl⟩
    subst hW
    by_cases hqn : q < n
    · have ca := (HA.out.below hbr).cell (i := q) (by rw [HX.out.rows]; exact hqn)
      have ra := (HA.out.below hbr).row (i := q) (by rw [HX.out.rows]; exact hqn)
      have sra := ra.isSl
      have lra := ra.len
      rw [HX.out.cols q hqn] at lra
      have cb0 := (HB.out.below hbr).cell (i := 0) (by rw [HY.out.rows]; exact h0)
      have rb0 := (HB.out.below hbr).row (i := 0) (by rw [HY.out.rows]; exact h0)
      have srb0 := rb0.isSl
      have lrb0 := rb0.len
      rw [HY.out.cols 0 h0] at lrb0
      have HRA := Lib.hid ra; clear ra
      have hbs := hbr.size
      clear rb0
      have HM := Lib.hid hm; clear hm
      have HBR := Lib.hid hbr; clear hbr
      have hrl : (rowP (nthr xss q) yss n).length = n := rowP_length _ _ _
      have HRL := Lib.hid hrl; clear hrl
      go_wp2_with fail
      go_loopw [8, 23] (fun r j wx => ∃ p : Nat, p ≤ n ∧ j = .int .i64 p ∧ OwnI wx W.heap.size r ((rowP (nthr xss q) yss n).take p) ∧ Below W.heap.size W wx) (fun _ j _ => n - (intOf j).toNat)
      case atStart => exact ⟨0, Nat.zero_le _, rfl, ownI_nil _ _, Below.refl _ _⟩
      case round =>
        obtain ⟨p, hp, rfl, ho, hbx⟩ := hrel
        obtain ⟨X, hX⟩ : ∃ X : World, X = wr := ⟨_, rfl⟩
        subst hX
        by_cases hpn : p < n
        · have HO := Lib.hid ho; clear ho
          have HBX := Lib.hid hbx; clear hbx
          clear ca cb0
          have hxs := HBX.out.size
          go_wp2_with fail
          go_loop [10, 28] (fun s j => ∃ t : Nat, t ≤ n ∧ j = .int .i64 t ∧ s = .int .i64 (sumTo (fun j => nth (nthr xss q) j * ent2 yss j p) t)) (fun _ j => n - (intOf j).toNat)
          case atStart => exact ⟨0, Nat.zero_le _, rfl, rfl⟩
          case round =>
            obtain ⟨t, ht, rfl, rfl⟩ := hrel
            have hsa := sumTo_abs (f := fun j => nth (nthr xss q) j * ent2 yss j p) (B := 10000) (fun j => by rw [Int.natAbs_mul]; exact Nat.mul_le_mul (HXA.out q j) (HYA.out j p)) t
            by_cases htn : t < n
            · have hbt := HBR.out.trans (HBX.out.mono hbs)
              have c1 := (HRA.out.below HBX.out).cell (k := t) (by rw [HX.out.cols q hqn]; exact htn)
              have cb := (HB.out.below hbt).cell (i := t) (by rw [HY.out.rows]; exact htn)
              have rb := (HB.out.below hbt).row (i := t) (by rw [HY.out.rows]; exact htn)
              have srb := rb.isSl
              have lrb := rb.len
              rw [HY.out.cols t htn] at lrb
              have c2 := rb.cell (k := p) (by rw [HY.out.cols t htn]; exact hpn)
              have he : nth (nthr yss t) p = ent2 yss t p := rfl
              rw [he] at c2
              have hmul : (nth (nthr xss q) t * ent2 yss t p).natAbs ≤ 10000 := by rw [Int.natAbs_mul]; exact Nat.mul_le_mul (HXA.out q t) (HYA.out t p)
              clear he rb hbt
              have hst : sumTo (fun j => nth (nthr xss q) j * ent2 yss j p) (t + 1) = sumTo (fun j => nth (nthr xss q) j * ent2 yss j p) t + nth (nthr xss q) t * ent2 yss t p := rfl
              have HST := Lib.hid hst; clear hst
              have hm1 : -10000 ≤ nth (nthr xss q) t * ent2 yss t p := by omega
              have hm2 : nth (nthr xss q) t * ent2 yss t p ≤ 10000 := by omega
              have hs1 : -60000 ≤ sumTo (fun j => nth (nthr xss q) j * ent2 yss j p) t := by omega
              have hs2 : sumTo (fun j => nth (nthr xss q) j * ent2 yss j p) t ≤ 60000 := by omega
              clear hmul hsa
              go_wp2_with fail
              go_round
              case rel => exact ⟨t + 1, by omega, by go_num, by rw [HST.out]⟩
              case measure => simp [intOf]; omega
            · obtain rfl : t = n := by omega
              have hol := HO.out
              have hpl : ((rowP (nthr xss q) yss t).take p).length ≤ 6 := by simp; omega
              clear hsa
              go_wp2_with (at_builtin; refine wpList_push (v := u8) rfl _ _ rfl rfl rfl hol (by omega) (by omega) ?_; intro r2 w2 ho2 hg2 hr2)
              have hb2 : Below W.heap.size W w2 := Below_of_grown HBX.out hg2 hxs (fun k hk => (HO.out.lt k hk).1)
              go_roundw
              case rel => exact ⟨p + 1, by omega, by go_num, by rw [take_succ_nth _ _ (by rw [HRL.out]; exact hpn), nth_rowP _ _ _ _ hpn]; exact ho2, hb2⟩
              case measure => simp [intOf]; omega
        · obtain rfl : p = n := by omega
          have ho' : OwnI X W.heap.size u8 (rowP (nthr xss q) yss p) := by
            rw [List.take_of_length_le (by rw [HRL.out]; exact Nat.le_refl _)] at ho; exact ho
          have hmx := HM.out.below hbx
          have hap : 0 < (rowP (nthr xss q) yss p).length → row u5 ≠ some (vblk u8) := by
            intro h0 e
            have h1 := ho'.ge h0
            have h2 := HM.out.own.lt _ e
            rw [vat_block] at h1
            omega
          have hxs := hbx.size
          have s8 := ho'.isSl
          have HAP := Lib.hid hap; clear hap
          have hml : ((prodL xss yss p).take q).length ≤ 6 := by simp; omega
          clear ho ca cb0
          go_wp2_with (first
            | (refine wpList_rows1 rfl (.tmp 51) rfl rfl s8 ?_)
            | (at_builtin; refine wpList_pushRow (v := u5) rfl _ _ rfl rfl rfl hmx ho'.ints (by omega) (by omega) HAP.out ?_; intro m2 w2 hm2 hg2 hr2))
          have hb2 : Below w.heap.size w w2 := Below_of_grown (HBR.out.trans (hbx.mono hbs)) hg2 (by omega) (fun k hk => (HM.out.own.lt k hk).1)
          go_roundw
          case rel => exact ⟨q + 1, by omega, by go_num, by rw [take_succ_nthr _ _ (by rw [HPL.out]; exact hqn), nthr_prodL _ _ _ _ hqn]; exact hm2, hb2⟩
          case measure => simp [intOf]; omega
    · obtain rfl : q = n := by omega
      have HBR := Lib.hid hbr; clear hbr
      have hm' : OwnR.apart W w.heap.size u5 (prodL xss yss q) := by
        rw [List.take_of_length_le (by rw [HPL.out]; exact Nat.le_refl _)] at hm; exact hm
      clear hm
      go_wp2_with fail
      go_ret
      exact ⟨u5, rfl, hm', HBR.out⟩

end Go.Proofs.Ytbopcejelddooaa

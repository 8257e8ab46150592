/- tangle.floor, Untangle and timbmake.Fraction walked. -/
import Derived.Test.YtpnbkoihglppnaaTangle
namespace Go.Proofs.Ytpnbkoihglppnaa
open Go.RowKit Go.Sl

theorem floor_of (a b : Int) (hb : 0 < b) : a / b = if a.tmod b < 0 then a.tdiv b - 1 else a.tdiv b := by
  have h1 := Int.tmod_add_mul_tdiv a b
  have h2 : a.tmod b < b := Int.tmod_lt_of_pos a hb
  have h3 : -b < a.tmod b := by
    have := Int.natAbs_tmod a b
    have h4 : (a.tmod b).natAbs < b.natAbs := by rw [this]; exact Nat.mod_lt _ (by omega)
    omega
  split
  · rename_i h
    apply (Int.ediv_eq_iff_of_pos hb).2
    constructor
    · rw [Int.sub_mul, Int.mul_comm (a.tdiv b)]; omega
    · rw [Int.sub_mul, Int.mul_comm (a.tdiv b)]; omega
  · rename_i h
    apply (Int.ediv_eq_iff_of_pos hb).2
    constructor
    · rw [Int.mul_comm (a.tdiv b)]; omega
    · rw [Int.mul_comm (a.tdiv b)]; omega

theorem tfloor_calls (a b : Int) (w : World) (ha : a.natAbs ≤ 1000000000000) (hb : 0 < b) (hb2 : b ≤ 1000000000000) :
    Calls Try.prog 95 #[.int .i64 a, .int .i64 b] w fun e w' => e = .returned (.int .i64 (a / b)) ∧ w = w' := by
  have hf := floor_of a b hb
  rcases Int.lt_or_le a 0 with h | h
  · have hb0 : (b == 0) = false := by rw [beq_eq_false_iff_ne]; omega
    have hb1 : 1 ≤ b := by omega
    have hq : (a.tdiv b).natAbs ≤ 1000000000000 := by rw [Int.natAbs_tdiv]; exact Nat.le_trans (Nat.div_le_self _ _) ha
    have hm : (a.tmod b).natAbs ≤ 1000000000000 := by rw [Int.natAbs_tmod]; exact Nat.le_trans (Nat.mod_le _ _) ha
    have q1 : -1000000000000 ≤ a.tdiv b := by omega
    have q2 : a.tdiv b ≤ 1000000000000 := by omega
    have q3 : -1000000000000 ≤ a.tmod b := by omega
    have q4 : a.tmod b ≤ 1000000000000 := by omega
    obtain ⟨Q, hQ⟩ : ∃ Q, Q = a / b := ⟨_, rfl⟩
    rw [← hQ] at hf ⊢
    clear hQ hq hm
    by_cases hneg : a.tmod b < 0
    · rw [if_pos hneg] at hf
      have HF := Lib.hid hf; clear hf
      go_enter Try.func95, Try.ntmps95
      go_wp2
      go_ret
      exact ⟨ret_int' HF.out.symm, rfl⟩
    · rw [if_neg hneg] at hf
      have HF := Lib.hid hf; clear hf
      go_enter Try.func95, Try.ntmps95
      go_wp2
      go_ret
      exact ⟨ret_int' HF.out.symm, rfl⟩
  · clear hf
    have hm : ¬ a % b < 0 := by have := Int.emod_nonneg a (show b ≠ 0 by omega); omega
    have hb1 : 1 ≤ b := by omega
    go_enter Try.func95, Try.ntmps95
    go_wp2
    go_ret
    exact ⟨rfl, rfl⟩

/-- The step of Untangle. -/
def kF (n d : Int) : Int := if 0 < d then (2 * n + d) / (2 * d) else 0
def untGo : Nat → Int → Int → List Int
  | 0, _, _ => []
  | f + 1, n, d => if n = 0 then [] else
      (if kF n d = 0 then [] else [-(kF n d)]) ++ (if n + -(kF n d) * d = 0 then [] else 0 :: untGo f (turnF (n + -(kF n d) * d) d).1 (turnF (n + -(kF n d) * d) d).2)
def mF (n d : Int) : Nat := if n = 0 then 0 else d.toNat + 1
def untL (n d : Int) : List Int := untGo (mF n d) n d

theorem near {n d : Int} (h : 0 < d) : 2 * (n + -(kF n d) * d).natAbs ≤ d := by
  unfold kF
  rw [if_pos h]
  have h1 := Int.mul_ediv_add_emod (2 * n + d) (2 * d)
  have h2 := Int.emod_nonneg (2 * n + d) (show 2 * d ≠ 0 by omega)
  have h3 := Int.emod_lt_of_pos (2 * n + d) (show 0 < 2 * d by omega)
  generalize (2 * n + d) / (2 * d) = q at *
  generalize (2 * n + d) % (2 * d) = r at *
  rw [Int.mul_assoc] at h1
  have h4 : d * q = q * d := Int.mul_comm _ _
  rw [Int.neg_mul]
  omega
theorem turn_den (n d : Int) (h : n ≠ 0) : (turnF n d).2 = n.natAbs := by
  unfold turnF; split
  · simp only; omega
  · simp only; omega
theorem turn_num (n d : Int) (h : n ≠ 0) : (turnF n d).1.natAbs = d.natAbs := by
  unfold turnF; split
  · rfl
  · simp
theorem mF_step {n d : Int} (hd : 0 ≤ d) (hn : n ≠ 0) (h : n + -(kF n d) * d ≠ 0) : mF (turnF (n + -(kF n d) * d) d).1 (turnF (n + -(kF n d) * d) d).2 < mF n d := by
  have h1 := turn_den _ d h
  have h2 := turn_num _ d h
  have h3 : mF n d = d.toNat + 1 := by unfold mF; rw [if_neg hn]
  rw [h3]
  unfold mF
  split
  · omega
  · rcases Int.lt_or_eq_of_le hd with h4 | h4
    · have := near (n := n) h4; omega
    · subst h4; omega
theorem untGo_any (f : Nat) : ∀ (n d : Int), 0 ≤ d → mF n d ≤ f → untGo f n d = untL n d := by
  suffices h : ∀ (f g : Nat) (n d : Int), 0 ≤ d → mF n d ≤ f → mF n d ≤ g → untGo f n d = untGo g n d from fun n d hd hf => h f _ n d hd hf (Nat.le_refl _)
  intro f
  induction f with
  | zero =>
    intro g n d hd hf _
    have hn : n = 0 := by unfold mF at hf; split at hf <;> omega
    cases g with
    | zero => rfl
    | succ g => rw [untGo, untGo, if_pos hn]
  | succ f ih =>
    intro g n d hd hf hg
    cases g with
    | zero =>
      have hn : n = 0 := by unfold mF at hg; split at hg <;> omega
      rw [untGo, untGo, if_pos hn]
    | succ g =>
      rw [untGo, untGo]
      by_cases hn : n = 0
      · rw [if_pos hn, if_pos hn]
      · by_cases h : n + -(kF n d) * d = 0
        · rw [if_pos h, if_pos h]
        · have h1 := mF_step hd hn h
          rw [ih g _ _ (by rw [turn_den _ d h]; omega) (by omega) (by omega)]
theorem untL_zero (d : Int) : untL 0 d = [] := by simp [untL, mF, untGo]
theorem untL_step {n d : Int} (hd : 0 ≤ d) (hn : n ≠ 0) : untL n d = (if kF n d = 0 then [] else [-(kF n d)]) ++ (if n + -(kF n d) * d = 0 then [] else 0 :: untL (turnF (n + -(kF n d) * d) d).1 (turnF (n + -(kF n d) * d) d).2) := by
  have h3 : mF n d = d.toNat + 1 := by unfold mF; rw [if_neg hn]
  rw [untL, h3, untGo, if_neg hn]
  by_cases h2 : n + -(kF n d) * d = 0
  · rw [if_pos h2, if_pos h2]
  · have h1 := mF_step hd hn h2
    rw [untGo_any d.toNat _ _ (by rw [turn_den _ d h2]; omega) (by omega)]
theorem untGo_length (f : Nat) : ∀ n d, (untGo f n d).length ≤ 2 * f := by
  induction f with
  | zero => intro n d; simp [untGo]
  | succ f ih =>
    intro n d
    rw [untGo]
    split
    · simp
    · have := ih (turnF (n + -(kF n d) * d) d).1 (turnF (n + -(kF n d) * d) d).2
      rw [List.length_append]
      split <;> split <;> simp <;> omega
theorem untL_length {n d : Int} (h : d ≤ 1000000) : (untL n d).length ≤ 2000002 := by
  have := untGo_length (mF n d) n d
  have h2 : mF n d ≤ 1000001 := by unfold mF; split <;> omega
  unfold untL; omega

theorem gcd_shift (n k d : Int) : Nat.gcd (n + k * d).natAbs d.natAbs = Nat.gcd n.natAbs d.natAbs := by
  have : Int.gcd (n + k * d) d = Int.gcd n d := by rw [Int.gcd_comm, Int.gcd_comm n]; simp
  exact this
theorem FracOk.turn {n d : Int} (h : FracOk n d) : FracOk (turnF n d).1 (turnF n d).2 := by
  obtain ⟨h1, h2, h3, h4, h5, h6⟩ := h
  unfold turnF
  split
  · rename_i hn
    exact ⟨by simp only; omega, by simp only; omega, by simp only; omega, by simp only; omega, by simp only; omega, by simp only [Int.natAbs_neg]; rw [Nat.gcd_comm]; exact h6⟩
  · split
    · exact ⟨by decide, by decide, by decide, by decide, fun _ => rfl, rfl⟩
    · exact ⟨by simp only; omega, by simp only; omega, by simp only; omega, by simp only; omega, by simp only; omega, by simp only [Int.natAbs_neg]; rw [Nat.gcd_comm]; exact h6⟩
theorem FracOk.plus {n d k : Int} (h : FracOk n d) (hd : d ≠ 0) (h1 : -1000000 ≤ n + k * d) (h2 : n + k * d ≤ 1000000) : FracOk (n + k * d) d :=
  ⟨h.d0, h.d1, h1, h2, fun e => absurd e hd, by rw [gcd_shift]; exact h.gcd⟩

def mOf (w : World) (B : Nat) : Nat := match w.heap[B]? with
  | some (.cells cs _ _) => match cs[0]?, cs[1]? with
    | some (Value.int _ n), some (Value.int _ d) => mF n d
    | _, _ => 0
  | _ => 0
theorem mOf_pair {w : World} {B : Nat} {t : TypeId} {k k' : IntKind} {n d : Int} (h : Pair w B t (.int k n) (.int k' d)) : mOf w B = mF n d := by
  unfold mOf; rw [show w.heap[B]? = _ from h]; rfl

/-- Between two steps: the fraction's block, and the call's own slice. -/
structure St (w : World) (B : Nat) (wr : World) (out : Value) (zs : List Int) (x y : Int) : Prop where
  pair : Pair wr B 68 (.int .i64 x) (.int .i64 y)
  own : OwnI wr (B + 1) out zs
  below : Below B w wr
theorem St.lt {w : World} {B : Nat} {wr : World} {out : Value} {zs : List Int} {x y : Int} (h : St w B wr out zs x y) : B < wr.heap.size := h.pair.lt
theorem St.push {w : World} {B : Nat} {wr w2 : World} {out v : Value} {zs ys : List Int} {x y : Int} (h : St w B wr out zs x y) (ho : OwnI w2 (B + 1) v ys) (hg : wr.grownBy w2 (row out)) : St w B w2 v ys x y := by
  have hb : Below (B + 1) wr w2 := (Below.refl _ _).grown hg h.lt (fun k hk => (h.own.lt k hk).1)
  exact ⟨h.pair.under hb (by omega), ho, h.below.trans (hb.mono (by omega))⟩
theorem St.call {w : World} {B : Nat} {wr w2 : World} {out : Value} {zs : List Int} {x y : Int} (h : St w B wr out zs x y) (hb : Below wr.heap.size wr w2) : St w B w2 out zs x y :=
  ⟨h.pair.below hb, h.own.below hb, h.below.trans (hb.mono (Nat.le_of_lt h.lt))⟩
theorem St.store {w : World} {B : Nat} {wr : World} {out : Value} {zs : List Int} {x y : Int} (h : St w B wr out zs x y) (p q : Int) : St w B ((wr.setCell ⟨B, 0, none⟩ (.int .i64 p)).setCell ⟨B, 1, none⟩ (.int .i64 q)) out zs p q :=
  ⟨h.pair.set _ _, (h.own.setOther (fun k hk e => by have := (h.own.lt k hk).1; simp at e; omega) _).setOther (fun k hk e => by have := (h.own.lt k hk).1; simp at e; omega) _, (h.below.setCell (Nat.le_refl _) _).setCell (Nat.le_refl _) _⟩

set_option maxHeartbeats 2000000 in
set_option maxRecDepth 100000 in
theorem untangle_calls (n d : Int) (w : World) (hok : FracOk n d) :
    Calls Try.prog 50 #[.agg #[.int .i64 n, .int .i64 d]] w fun e w' => ∃ v, e = .returned (.tuple #[v, .int .i64 0]) ∧ OwnI w' w.heap.size v (untL n d) ∧ Below w.heap.size w w' := by
  obtain ⟨U, hU⟩ : ∃ U, U = untL n d := ⟨_, rfl⟩
  have hUl : U.length ≤ 2000002 := by rw [hU]; exact untL_length hok.d1
  rw [← hU]
  have HU := Lib.hid hU; clear hU
  have HC := Lib.hid (fun W => tcheck_calls n d W hok)
  have HOK := Lib.hid hok; clear hok
  obtain ⟨W2, hW2⟩ : ∃ W2, W2 = w.alloc (.cells #[.int .i64 n, .int .i64 d] 68) := ⟨_, rfl⟩
  have p1 : Pair W2 w.heap.size 68 (.int .i64 n) (.int .i64 d) := by rw [hW2]; exact (pair_new w _ _ _)
  have hs2 : W2.heap.size = w.heap.size + 1 := by rw [hW2]; simp
  have b2 : Below w.heap.size w W2 := by rw [hW2]; exact (Below.refl _ _).alloc (Nat.le_refl _) _
  have HW2 := Lib.hid hW2.symm; clear hW2
  have P1 := Lib.hid p1; have B2 := Lib.hid b2; have HS2 := Lib.hid hs2; clear p1 b2 hs2
  go_enter Try.func50, Try.ntmps50
  go_wp2_with fail
  rw [HW2.out]
  refine (HC.out _).mono ?_
  rintro e w1 ⟨rfl, hb1⟩
  have hb1s := hb1.size
  rw [HS2.out] at hb1s
  have q1 := P1.out.under hb1 (by rw [HS2.out]; omega)
  have hbb : Below w.heap.size w w1 := B2.out.trans (hb1.mono (by rw [HS2.out]; omega))
  have Q1 := Lib.hid q1; have HBB := Lib.hid hbb; clear q1 hbb hb1
  go_wp2_with fail
  go_loopw [5] (fun out wr => ∃ (zs : List Int) (x y : Int), FracOk x y ∧ St w w.heap.size wr out zs x y ∧ zs ++ untL x y = U) (fun _ wr => mOf wr w.heap.size)
  case atStart => exact ⟨[], n, d, HOK.out, ⟨Q1.out, ownI_nil _ _, HBB.out⟩, by rw [HU.out]; rfl⟩
  case round =>
    obtain ⟨zs, x, y, hxy, hst, hz⟩ := hrel
    have hm0 := mOf_pair hst.pair
    have hzl : zs.length ≤ 2000002 := by have := congrArg List.length hz; simp only [List.length_append] at this; omega
    have lt1 := hst.lt
    have c0 := hst.pair.cell0
    have c1 := hst.pair.cell1
    have f0 := hst.pair.free0
    have f1 := hst.pair.free1
    have so := hst.own.isSl
    have HM0 := Lib.hid hm0
    have HST := Lib.hid hst; have HZ := Lib.hid hz; clear hm0 hst hz
    have hx1 := hxy.n0; have hx2 := hxy.n1; have hy1 := hxy.d0; have hy2 := hxy.d1
    by_cases hx0 : x = 0
    · subst hx0
      have hne : ((0 : Int) != 0) = false := rfl
      have hzz := HZ.out
      rw [untL_zero, List.append_nil] at hzz
      have HZZ := Lib.hid hzz; clear hzz hxy
      go_wp2_with (first | (go_at_call 70; refine (clip_calls _ _ _ _ HST.out.own).mono ?_; rintro e1 w3 ⟨rfl, v3, rfl, ho3⟩))
      go_ret2
      exact ⟨v3, rfl, by rw [← HZZ.out]; exact ho3.low (by omega), HST.out.below⟩
    · have hne : (x != 0) = true := by simp [hx0]
      have hun := untL_step (n := x) (d := y) hy1 hx0
      obtain ⟨K, hK⟩ : ∃ K, kF x y = K := ⟨_, rfl⟩
      obtain ⟨X, hX⟩ : ∃ X, x + -K * y = X := ⟨_, rfl⟩
      obtain ⟨p, hp⟩ : ∃ p, (turnF X y).1 = p := ⟨_, rfl⟩
      obtain ⟨q, hq⟩ : ∃ q, (turnF X y).2 = q := ⟨_, rfl⟩
      have hms := mF_step hy1 hx0
      rw [hK, hX, hp, hq] at hun hms
      rw [← HM0.out] at hms
      have HMS := Lib.hid hms; clear hms
      have hX2 : X = 0 ∨ (2 * X.natAbs ≤ y.natAbs) ∨ y = 0 := by
        rcases Int.lt_or_eq_of_le hy1 with h | h
        · have := near (n := x) h; rw [hK, hX] at this; omega
        · omega
      rcases Int.lt_or_eq_of_le hy1 with hy0 | hy0
      · have hfl := tfloor_calls (2 * x + y) (2 * y) wr (by omega) (by omega) (by omega)
        have hKe : (2 * x + y) / (2 * y) = K := by rw [← hK]; unfold kF; rw [if_pos hy0]
        rw [hKe] at hfl
        have hKb : K.natAbs ≤ 10000000 := by
          rw [← hKe]
          have := Int.natAbs_ediv_le_natAbs (2 * x + y) (2 * y)
          omega
        have hy00 : y ≠ 0 := by omega
        have hXok : FracOk X y := by
          rw [← hX]; exact hxy.plus hy00 (by rw [hX]; omega) (by rw [hX]; omega)
        have hXb : X.natAbs ≤ 1000000 := by have := hXok.n0; have := hXok.n1; omega
        have hpq : FracOk p q := by rw [← hp, ← hq]; exact hXok.turn
        have HFL := Lib.hid hfl; clear hfl hKe hX2 hy00
        have HUN := Lib.hid hun; clear hun hxy
        have HXOK := Lib.hid hXok; have HPQ := Lib.hid hpq; have HX := Lib.hid hX; have HP := Lib.hid hp; have HQ := Lib.hid hq; have HK := Lib.hid hK; clear hXok hpq hX hp hq hK
        clear hx0
        by_cases hk0 : K = 0
        · have hk1 : (K != 0) = false := by simp [hk0]
          have hXx : X = x := by rw [← HX.out, hk0]; simp
          have HXX := Lib.hid hXx; clear hXx
          have hfin : zs ++ [0] ++ untL p q = U := by
            rw [← HZ.out, HUN.out, if_pos hk0, if_neg (by rw [HXX.out]; simpa using hne)]; simp
          have HFI := Lib.hid hfin; clear hfin
          have hx0' : x ≠ 0 := by simpa using hne
          have HX0 := Lib.hid hx0'; clear hx0'
          have hbx : x.natAbs ≤ 1000000 := by omega
          clear hk0
          go_wp2_with fail
          refine HFL.out.mono ?_
          rintro e w' ⟨rfl, rfl⟩
          have lb_ST2 := HST.out.lt
          have sl_ST2 : zs.length ≤ 3000000 := by omega
          go_wp2_with (first | (at_builtin; refine wpList_push (v := u5) rfl _ _ rfl rfl rfl HST.out.own lb_ST2 (by omega) ?_; intro out2 w2 ho2 hg_ST2 hr_ST2; have st_ST2 := HST.out.push ho2 hg_ST2; have c0_ST2 := st_ST2.pair.cell0; have c1_ST2 := st_ST2.pair.cell1; have f0_ST2 := st_ST2.pair.free0; have f1_ST2 := st_ST2.pair.free1; have sv_ST2 := st_ST2.own.isSl; have lt_ST2 := st_ST2.lt; have ST2 := Lib.hid st_ST2; clear st_ST2 ho2 hg_ST2 hr_ST2))
          go_wp2_with fail
          refine (tturn_calls x y _ (by omega) (by omega) (by omega)).mono ?_
          rw [show (turnF x y).1 = p by rw [← HXX.out]; exact HP.out, show (turnF x y).2 = q by rw [← HXX.out]; exact HQ.out]
          rintro e w3 ⟨rfl, hb3⟩
          have st3 := ST2.out.call hb3
          have c0' := st3.pair.cell0; have c1' := st3.pair.cell1; have f0' := st3.pair.free0; have f1' := st3.pair.free1; have lt3 := st3.lt
          have ST4 := Lib.hid (st3.store p q); clear st3 hb3
          go_wp2_with fail
          go_roundw
          case rel => exact ⟨zs ++ [0], p, q, HPQ.out, ST4.out, HFI.out⟩
          case measure => have := HMS.out; rw [HXX.out] at this; have := this HX0.out; have h5 := mOf_pair ST4.out.pair; omega
        · have hk1 : (K != 0) = true := by simp [hk0]
          by_cases hX0 : X = 0
          · have hX1 : (X != 0) = false := by simp [hX0]
            have hfin : zs ++ [-K] ++ untL X y = U := by
              rw [← HZ.out, HUN.out, if_neg hk0, if_pos hX0, hX0, untL_zero]; simp
            have hmx : mF X y < mOf wr w.heap.size := by rw [HM0.out]; unfold mF; rw [if_pos hX0, if_neg (by simpa using hne)]; omega
            have HFI := Lib.hid hfin; have HMX := Lib.hid hmx; clear hfin hmx hk0 hX0
            go_wp2_with fail
            refine HFL.out.mono ?_
            rintro e w' ⟨rfl, rfl⟩
            have lb_ST2 := HST.out.lt
            have sl_ST2 : zs.length ≤ 3000000 := by omega
            go_wp2_with (first | (at_builtin; refine wpList_push (v := u5) rfl _ _ rfl rfl rfl HST.out.own lb_ST2 (by omega) ?_; intro out2 w2 ho2 hg_ST2 hr_ST2; have st_ST2 := HST.out.push ho2 hg_ST2; have c0_ST2 := st_ST2.pair.cell0; have c1_ST2 := st_ST2.pair.cell1; have f0_ST2 := st_ST2.pair.free0; have f1_ST2 := st_ST2.pair.free1; have sv_ST2 := st_ST2.own.isSl; have lt_ST2 := st_ST2.lt; have ST2 := Lib.hid st_ST2; clear st_ST2 ho2 hg_ST2 hr_ST2))
            go_wp2_with fail
            refine (tplus_calls x y (-K) _ (by omega) (by omega) (by omega)).mono ?_
            rw [HX.out]
            rintro e w3 ⟨rfl, hb3⟩
            have st3 := ST2.out.call hb3
            have c0' := st3.pair.cell0; have c1' := st3.pair.cell1; have f0' := st3.pair.free0; have f1' := st3.pair.free1; have lt3 := st3.lt
            have ST4 := Lib.hid (st3.store X y); clear st3 hb3
            have d0' := ST4.out.pair.cell0; have d1' := ST4.out.pair.cell1; have g0' := ST4.out.pair.free0; have g1' := ST4.out.pair.free1
            go_wp2_with fail
            go_roundw
            case rel => exact ⟨zs ++ [-K], X, y, HXOK.out, ST4.out, HFI.out⟩
            case measure => have := HMX.out; have h5 := mOf_pair ST4.out.pair; omega
          · have hX1 : (X != 0) = true := by simp [hX0]
            have hfin : zs ++ [-K] ++ [0] ++ untL p q = U := by
              rw [← HZ.out, HUN.out, if_neg hk0, if_neg hX0]; simp
            have HFI := Lib.hid hfin; have HX0 := Lib.hid hX0; clear hfin hk0 hX0
            go_wp2_with fail
            refine HFL.out.mono ?_
            rintro e w' ⟨rfl, rfl⟩
            have lb_ST2 := HST.out.lt
            have sl_ST2 : zs.length ≤ 3000000 := by omega
            go_wp2_with (first | (at_builtin; refine wpList_push (v := u5) rfl _ _ rfl rfl rfl HST.out.own lb_ST2 (by omega) ?_; intro out2 w2 ho2 hg_ST2 hr_ST2; have st_ST2 := HST.out.push ho2 hg_ST2; have c0_ST2 := st_ST2.pair.cell0; have c1_ST2 := st_ST2.pair.cell1; have f0_ST2 := st_ST2.pair.free0; have f1_ST2 := st_ST2.pair.free1; have sv_ST2 := st_ST2.own.isSl; have lt_ST2 := st_ST2.lt; have ST2 := Lib.hid st_ST2; clear st_ST2 ho2 hg_ST2 hr_ST2))
            go_wp2_with fail
            refine (tplus_calls x y (-K) _ (by omega) (by omega) (by omega)).mono ?_
            rw [HX.out]
            rintro e w3 ⟨rfl, hb3⟩
            have st3 := ST2.out.call hb3
            have c0' := st3.pair.cell0; have c1' := st3.pair.cell1; have f0' := st3.pair.free0; have f1' := st3.pair.free1; have lt3 := st3.lt
            have ST4 := Lib.hid (st3.store X y); clear st3 hb3
            have d0' := ST4.out.pair.cell0; have d1' := ST4.out.pair.cell1; have g0' := ST4.out.pair.free0; have g1' := ST4.out.pair.free1
            have lb_ST6 := ST4.out.lt
            have sl_ST6 : ((zs ++ [-K]).length) ≤ 3000000 := by simp; omega
            go_wp2_with (first | (at_builtin; refine wpList_push (v := out2) rfl _ _ rfl rfl (by show Value.slice (some ⟨w3.heap.size, 0, none⟩) 1 1 = _; simp) ST4.out.own lb_ST6 (by omega) ?_; intro out6 w6 ho6 hg_ST6 hr_ST6; have st_ST6 := ST4.out.push ho6 hg_ST6; have c0_ST6 := st_ST6.pair.cell0; have c1_ST6 := st_ST6.pair.cell1; have f0_ST6 := st_ST6.pair.free0; have f1_ST6 := st_ST6.pair.free1; have sv_ST6 := st_ST6.own.isSl; have lt_ST6 := st_ST6.lt; have ST6 := Lib.hid st_ST6; clear st_ST6 ho6 hg_ST6 hr_ST6))
            go_wp2_with fail
            refine (tturn_calls X y _ (by omega) (by omega) (by omega)).mono ?_
            rw [HP.out, HQ.out]
            rintro e w7 ⟨rfl, hb7⟩
            have st7 := ST6.out.call hb7
            have c0_7 := st7.pair.cell0; have c1_7 := st7.pair.cell1; have f0_7 := st7.pair.free0; have f1_7 := st7.pair.free1; have lt7 := st7.lt
            have ST8 := Lib.hid (st7.store p q); clear st7 hb7
            go_wp2_with fail
            go_roundw
            case rel => exact ⟨zs ++ [-K] ++ [0], p, q, HPQ.out, ST8.out, HFI.out⟩
            case measure => have := HMS.out HX0.out; have h5 := mOf_pair ST8.out.pair; omega
      · obtain rfl : y = 0 := hy0.symm
        have hfin : zs ++ [0] ++ untL p q = U := by
          have hK0 : K = 0 := by rw [← hK]; rfl
          have hXx : X = x := by rw [← hX, hK0]; simp
          rw [← HZ.out, hun, if_pos hK0, if_neg (by rw [hXx]; exact hx0)]; simp
        have hXx : X = x := by
          have hK0 : K = 0 := by rw [← hK]; rfl
          rw [← hX, hK0]; simp
        have hpq : FracOk p q := by rw [← hp, ← hq, hXx]; exact hxy.turn
        have hbx : x.natAbs ≤ 1000000 := by omega
        have HFI := Lib.hid hfin; have HXX := Lib.hid hXx; have HPQ := Lib.hid hpq; have HP := Lib.hid hp; have HQ := Lib.hid hq; have HX0 := Lib.hid hx0
        clear hfin hXx hpq hp hq hun hK hX hxy hX2 hx0
        have lb_ST2 := HST.out.lt
        have sl_ST2 : zs.length ≤ 3000000 := by omega
        go_wp2_with (first | (at_builtin; refine wpList_push (v := u5) rfl _ _ rfl rfl rfl HST.out.own lb_ST2 (by omega) ?_; intro out2 w2 ho2 hg_ST2 hr_ST2; have st_ST2 := HST.out.push ho2 hg_ST2; have c0_ST2 := st_ST2.pair.cell0; have c1_ST2 := st_ST2.pair.cell1; have f0_ST2 := st_ST2.pair.free0; have f1_ST2 := st_ST2.pair.free1; have sv_ST2 := st_ST2.own.isSl; have lt_ST2 := st_ST2.lt; have ST2 := Lib.hid st_ST2; clear st_ST2 ho2 hg_ST2 hr_ST2))
        go_wp2_with fail
        refine (tturn_calls x 0 _ (by omega) (by omega) (by omega)).mono ?_
        rw [show (turnF x 0).1 = p by rw [← HXX.out]; exact HP.out, show (turnF x 0).2 = q by rw [← HXX.out]; exact HQ.out]
        rintro e w3 ⟨rfl, hb3⟩
        have st3 := ST2.out.call hb3
        have c0' := st3.pair.cell0; have c1' := st3.pair.cell1; have f0' := st3.pair.free0; have f1' := st3.pair.free1; have lt3 := st3.lt
        have ST4 := Lib.hid (st3.store p q); clear st3 hb3
        go_wp2_with fail
        go_roundw
        case rel => exact ⟨zs ++ [0], p, q, HPQ.out, ST4.out, HFI.out⟩
        case measure => have := HMS.out; rw [HXX.out] at this; have := this HX0.out; have h5 := mOf_pair ST4.out.pair; omega
end Go.Proofs.Ytpnbkoihglppnaa

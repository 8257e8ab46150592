/- laurent.Check, both, Fit, Add, Sub, Mul and the statements' mul, add, same, walked. -/
import Derived.Test.YtplekfgadbjgdaaQTopSums0
import Derived.Test.YtplekfgadbjgdaaQTopSums1
import Derived.Test.YtplekfgadbjgdaaQTopSums3
import Derived.Test.YtplekfgadbjgdaaQTopSums4
import Derived.Test.YtplekfgadbjgdaaQTopSums5
import Derived.Test.YtplekfgadbjgdaaQTopSums6
import Derived.Test.YtplekfgadbjgdaaQTopSums7
import Derived.Test.YtplekfgadbjgdaaQTopSums10
import Derived.Test.YtplekfgadbjgdaaQTopSums11
import Derived.Test.YtplekfgadbjgdaaQTopSums12
import Derived.Test.YtplekfgadbjgdaaQTopSums13

namespace Go.Proofs.Ytplekfgadbjgdaa
open Go.RowKit Go.Sl

/-- A polynomial as Check wants it. -/
structure POk (p : LP) : Prop where
  len : p.c.length ≤ 200
  lo1 : -1000 ≤ p.low
  lo2 : p.low ≤ 1000
  tr : Trimmed p
  co : n1 p.c ≤ 1000000000 ∧ ∀ x ∈ p.c, -100000000 ≤ x ∧ x ≤ 100000000
theorem POk.of {p : LP} {lo hi : Int} (ht : Trimmed p) (hw : Within p lo hi) (h1 : -1000 ≤ lo) (h2 : lo ≤ 0) (h3 : hi ≤ lo + 200) (_h5 : hi ≤ 1000) (hn : n1 p.c ≤ 100000000) : POk p := by
  rcases hw with h | h
  · have h0 := ht.zero h
    exact ⟨by rw [h]; simp, by omega, by omega, ht, by omega, fun x hx => by rw [h] at hx; cases hx⟩
  · refine ⟨by omega, by omega, ?_, ht, by omega, fun x hx => by have := n1_mem hx; omega⟩
    by_cases e : p.c = []
    · rw [ht.zero e]; omega
    · have := List.length_pos_iff.2 e; omega

theorem lcheck1_calls (x : Int) (w : World) (h1 : ¬ x < -100000000) (h2 : ¬ 100000000 < x) :
    Calls Try.prog 146 #[.int .i64 x] w fun e w' => e = .returned (.bool false) ∧ w = w' := by
  have e1 : decide (x < -100000000) = false := decide_eq_false h1
  have e2 : decide (100000000 < x) = false := decide_eq_false h2
  go_enter Try.func146, Try.ntmps146
  go_wp2
  go_ret
  exact ⟨rfl, rfl⟩

set_option maxRecDepth 100000 in
theorem lcheck_calls (p : LP) (s : Value) (w : World) (hs : Ints w s p.c) (h : POk p) :
    Calls Try.prog 111 #[.agg #[.int .i64 p.low, s]] w fun e w' => e = .returned (.int .i64 0) ∧ Below w.heap.size w w' := by
  obtain ⟨hlen, hl1, hl2, htr, -, hco⟩ := h
  have ss := hs.isSl
  have ls := hs.len
  have HS := Lib.hid hs; clear hs
  have HC := Lib.hid hco; clear hco
  have hcall : ∀ W : World, Ints W s p.c → Calls Try.prog 114 #[s, .func (.func 146) #[] #[]] W fun e w' => e = .returned (.bool false) ∧ W = w' := fun W hW =>
    containsFunc_none _ p.c _ _ (enters_any (Go.Proofs.enters_of Try.func146 (by kernel_rfl) rfl)) _ hW fun x hx => by
      have := HC.out x hx
      exact lcheck1_calls x W (by omega) (by omega)
  have HCALL := Lib.hid hcall; clear hcall
  have b1 : ¬ p.low < -1000 := by omega
  have b2 : ¬ 1000 < p.low := by omega
  by_cases hc : p.c = []
  · have h0 := htr.zero hc
    rw [hc] at ls hlen
    have ls0 : vlen s = 0 := by simpa using ls
    clear htr ls
    have HH0 := Lib.hid h0; clear h0 hc
    rw [HH0.out] at b1 b2 hl1 hl2 ⊢
    go_enter Try.func111, Try.ntmps111
    go_wp2_with (go_at_call 114; refine (HCALL.out _ (HS.out.alloc _)).mono ?_; rintro e w' ⟨rfl, rfl⟩)
    go_ret
    exact ⟨rfl, (Below.refl _ _).alloc (Nat.le_refl _) _⟩
  · obtain ⟨n, hn⟩ : ∃ n, p.c.length = n := ⟨_, rfl⟩
    have hn0 : 0 < n := by rw [← hn]; exact List.length_pos_iff.2 hc
    have f1 := htr.first hc
    have f2 := htr.last hc
    rw [hn] at ls hlen f2
    obtain ⟨m, hm⟩ : ∃ m, m = n - 1 := ⟨_, rfl⟩
    rw [← hm] at f2
    have hm1 : m < n := by omega
    have hmi : (n : Int) - 1 = (m : Int) := by omega
    have hnz : ((n : Int) == 0) = false := by rw [beq_eq_false_iff_ne]; omega
    have hni : (0 : Int) < (n : Int) := by omega
    have g1 : (nth p.c 0 == 0) = false := by simp [f1]
    have g2 : (nth p.c m == 0) = false := by simp [f2]
    have c1 := (HS.out.alloc (.cells #[.int .i64 p.low, s] 40)).cell (k := 0) (by omega)
    have c2 := (HS.out.alloc (.cells #[.int .i64 p.low, s] 40)).cell (k := m) (by omega)
    have HN := Lib.hid hn; have HM := Lib.hid hm
    clear htr hn hm f1 f2 hc
    go_enter Try.func111, Try.ntmps111
    go_wp2_with (go_at_call 114; refine (HCALL.out _ (HS.out.alloc _)).mono ?_; rintro e w' ⟨rfl, rfl⟩)
    go_ret
    exact ⟨rfl, (Below.refl _ _).alloc (Nat.le_refl _) _⟩

theorem lboth_calls (p q : LP) (s t : Value) (w : World) (hs : Ints w s p.c) (ht : Ints w t q.c) (hp : POk p) (hq : POk q) :
    Calls Try.prog 72 #[.agg #[.int .i64 p.low, s], .agg #[.int .i64 q.low, t]] w fun e w' => e = .returned (.int .i64 0) ∧ Below w.heap.size w w' := by
  have ss := hs.isSl
  have st := ht.isSl
  obtain ⟨W2, hW2⟩ : ∃ W2, W2 = (w.alloc (.cells #[.int .i64 p.low, s] 40)).alloc (.cells #[.int .i64 q.low, t] 40) := ⟨_, rfl⟩
  obtain ⟨p1, p2, b2, hz2⟩ := two _ _ _ _ _ _ _ hW2
  have P1 := Lib.hid p1; have P2 := Lib.hid p2; have B2 := Lib.hid b2; have HZ2 := Lib.hid hz2; have HW2 := Lib.hid hW2.symm
  clear p1 p2 b2 hz2 hW2
  have HS := Lib.hid hs; have HT := Lib.hid ht; have HP := Lib.hid hp; have HQ := Lib.hid hq; clear hs ht hp hq
  go_enter Try.func72, Try.ntmps72
  go_wp2_with fail
  rw [HW2.out]
  refine (lcheck_calls p s _ (HS.out.below B2.out) HP.out).mono ?_
  rintro e u1 ⟨rfl, hb1⟩
  have k2 := P2.out.below hb1
  have c0 := k2.cell0; have c1 := k2.cell1
  have B3 := Lib.hid (Below.chain B2.out hb1); clear hb1 k2
  go_wp2_with fail
  refine (lcheck_calls q t _ (HT.out.below B3.out) HQ.out).mono ?_
  rintro e u2 ⟨rfl, hb2⟩
  have B4 := Lib.hid (Below.chain B3.out hb2); clear hb2
  go_wp2_with fail
  go_ret
  exact ⟨rfl, B4.out⟩

theorem fit_calls (p : LP) (s : Value) (B : Nat) (w : World) (hs : OwnI w B s p.c) (_hB : B ≤ w.heap.size) (hp : POk p) :
    Calls Try.prog 73 #[.agg #[.int .i64 p.low, s]] w fun e w' => e = .returned (.tuple #[.agg #[.int .i64 p.low, s], .int .i64 0]) ∧ OwnI w' B s p.c ∧ Below w.heap.size w w' := by
  have ss := hs.isSl
  obtain ⟨W2, hW2⟩ : ∃ W2, W2 = (w.alloc (.cells #[.int .i64 p.low, s] 40)).alloc (.cells #[.int .i64 0, .slice none 0 0] 40) := ⟨_, rfl⟩
  obtain ⟨p1, p2, b2, hz2⟩ := two _ _ _ _ _ _ _ hW2
  have P1 := Lib.hid p1; have P2 := Lib.hid p2; have B2 := Lib.hid b2; have HZ2 := Lib.hid hz2; have HW2 := Lib.hid hW2.symm
  clear p1 p2 b2 hz2 hW2
  have HS := Lib.hid hs; have HP := Lib.hid hp; clear hs hp
  go_enter Try.func73, Try.ntmps73
  go_wp2_with fail
  rw [HW2.out]
  refine (lcheck_calls p s _ (HS.out.ints.below B2.out) HP.out).mono ?_
  rintro e u1 ⟨rfl, hb1⟩
  have k1 := P1.out.below hb1; have k2 := P2.out.below hb1
  have c0 := k1.cell0; have c1 := k1.cell1; have d0 := k2.cell0; have d1 := k2.cell1; have e0 := k2.free0; have e1 := k2.free1
  have hlt := k2.lt
  have B3 := Lib.hid (Below.chain B2.out hb1); clear hb1 k1 k2
  go_wp2_with fail
  refine bodyPost_ret (v := .tuple #[.agg #[.int .i64 p.low, s], .int .i64 0]) (by simp [results, Try.results73, go_sem, d0, d1]) rfl ⟨rfl, ?_, (B3.out.setCell (by simp) _).setCell (by simp) _⟩
  have ho := HS.out.below B3.out
  have hl := HS.out.lt
  exact (ho.setOther (fun k hk e => by have := (hl k hk).2; simp at e; omega) _).setOther (fun k hk e => by have := (hl k hk).2; simp at e; omega) _

/-! ARITH -/
set_option maxRecDepth 100000 in
theorem mul_calls (p q : LP) (s t : Value) (w : World) (hs : Ints w s p.c) (ht : Ints w t q.c) (hp : POk p) (hq : POk q) (hr : POk (pmul p q)) :
    Calls Try.prog 27 #[.agg #[.int .i64 p.low, s], .agg #[.int .i64 q.low, t]] w fun e w' => ∃ u, e = .returned (.tuple #[.agg #[.int .i64 (pmul p q).low, u], .int .i64 0]) ∧ OwnI w' w.heap.size u (pmul p q).c ∧ Below w.heap.size w w' := by
  have ss := hs.isSl
  have st := ht.isSl
  have k1 := hp.lo1; have k2 := hp.lo2; have k3 := hq.lo1; have k4 := hq.lo2; have k5 := hp.len; have k6 := hq.len; have k7 := hp.co.1; have k8 := hq.co.1
  have HN := Lib.hid (show n1 p.c * n1 q.c ≤ 4000000000000000000 by exact Nat.le_trans (Nat.mul_le_mul k7 k8) (by decide))
  obtain ⟨R, hR⟩ : ∃ R, R = pmul p q := ⟨_, rfl⟩
  rw [← hR] at hr ⊢
  obtain ⟨W3, hW3⟩ : ∃ W3, W3 = ((w.alloc (.cells #[.int .i64 p.low, s] 40)).alloc (.cells #[.int .i64 q.low, t] 40)).alloc (.cells #[.int .i64 0, .slice none 0 0] 40) := ⟨_, rfl⟩
  obtain ⟨p1, p2, p3, b3, hz3⟩ := three _ _ _ _ _ _ _ _ _ hW3
  have P1 := Lib.hid p1; have P2 := Lib.hid p2; have P3 := Lib.hid p3; have B3 := Lib.hid b3; have HZ3 := Lib.hid hz3; have HW3 := Lib.hid hW3.symm
  clear p1 p2 p3 b3 hz3 hW3
  have HS := Lib.hid hs; have HT := Lib.hid ht; have HP := Lib.hid hp; have HQ := Lib.hid hq; have HR := Lib.hid hr; have HRE := Lib.hid hR.symm; clear hs ht hp hq hr hR
  go_enter Try.func27, Try.ntmps27
  go_wp2_with fail
  rw [HW3.out]
  refine (lboth_calls p q s t _ (HS.out.below B3.out) (HT.out.below B3.out) HP.out HQ.out).mono ?_
  rintro e u1 ⟨rfl, hb1⟩
  have q1 := P1.out.below hb1; have q2 := P2.out.below hb1; have q3 := P3.out.below hb1
  have c0 := q1.cell0; have c1 := q1.cell1; have d0 := q2.cell0; have d1 := q2.cell1
  have hz4 : w.heap.size + 3 ≤ u1.heap.size := by have := hb1.size; have := HZ3.out; omega
  have B4 := Lib.hid (Below.chain B3.out hb1); have Q3 := Lib.hid q3; clear hb1 q1 q2 q3
  go_wp2_with fail
  refine (ltimes_calls p q s t _ (HS.out.below B4.out) (HT.out.below B4.out) (by omega) (by omega) (by omega) (by omega) HN.out).mono ?_
  rw [HRE.out]
  rintro e u2 ⟨v, rfl, hv, hb2⟩
  have sv := hv.isSl
  have hz5 := hb2.size
  have Q4 := Lib.hid (Q3.out.below hb2); have B5 := Lib.hid (Below.chain B4.out hb2); have HV := Lib.hid (hv.low hz4); clear hb2 hv
  go_wp2_with fail
  refine (fit_calls R v (w.heap.size + 3) _ HV.out (by omega) HR.out).mono ?_
  rintro e u3 ⟨rfl, hv3, hb3⟩
  have q4 := Q4.out.below hb3
  have e0 := q4.cell0; have e1 := q4.cell1; have f0 := q4.free0; have f1 := q4.free1
  have B6 := Lib.hid (Below.chain B5.out hb3); have HV3 := Lib.hid hv3; clear hb3 hv3 q4
  go_wp2_with fail
  refine bodyPost_ret (v := .tuple #[.agg #[.int .i64 R.low, v], .int .i64 0]) (by simp [results, Try.results27, go_sem, e0, e1]) rfl ⟨_, rfl, ?_, (B6.out.setCell (by simp; omega) _).setCell (by simp; omega) _⟩
  exact ((HV3.out.setOther (fun k hk e => by have := (HV3.out.lt k hk).1; simp at e; omega) _).setOther (fun k hk e => by have := (HV3.out.lt k hk).1; simp at e; omega) _).low (by omega)

end Go.Proofs.Ytplekfgadbjgdaa


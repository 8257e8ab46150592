/- laurent.Div walked: what it returns for a product and one of its factors. -/
import Derived.Test.YtkimbhmijgfhnaaDivLaw
namespace Go.Proofs.Ytkimbhmijgfhnaa
open Go.RowKit Go.Sl

theorem div1_zero (w : World) : Calls Try.prog 63 #[.int .i64 0] w fun e w' => e = .returned (.bool false) ∧ w = w' := by
  go_enter Try.func63, Try.ntmps63
  go_wp2
  go_ret
  exact ⟨rfl, rfl⟩

theorem div_zero (p q : LP) (s t : Value) (w : World) (hs : Ints w s p.c) (ht : Ints w t q.c) (hp : POk p) (hq : POk q) (h0 : q.c = []) :
    Calls Try.prog 22 #[.agg #[.int .i64 p.low, s], .agg #[.int .i64 q.low, t]] w fun e w' => e = .returned (.tuple #[.agg #[.int .i64 0, .slice none 0 0], .int .i64 6]) ∧ Below w.heap.size w w' := by
  have ss := hs.isSl
  have st := ht.isSl
  have lt := ht.len
  rw [h0] at lt
  obtain ⟨W3, hW3⟩ : ∃ W3, W3 = ((w.alloc (.cells #[.int .i64 p.low, s] 24)).alloc (.cells #[.int .i64 q.low, t] 24)).alloc (.cells #[.int .i64 0, .slice none 0 0] 24) := ⟨_, rfl⟩
  obtain ⟨p1, p2, p3, b3, hz3⟩ := three _ _ _ _ _ _ _ _ _ hW3
  have H := lboth_calls p q s t W3 (hs.below b3) (ht.below b3) hp hq
  have HH := Lib.hid H; have P2 := Lib.hid p2; have P3 := Lib.hid p3; have B3 := Lib.hid b3; have HZ3 := Lib.hid hz3; have HW3 := Lib.hid hW3.symm
  clear p1 p2 p3 b3 hz3 hW3 hs ht hp hq h0 H
  go_enter Try.func22, Try.ntmps22
  go_wp2_with fail
  rw [HW3.out]
  refine HH.out.mono ?_
  rintro e u1 ⟨rfl, hb1⟩
  have q2 := P2.out.below hb1; have q3 := P3.out.below hb1
  have d0 := q2.cell0; have d1 := q2.cell1; have e0 := q3.cell0; have e1 := q3.cell1; have f0 := q3.free0; have f1 := q3.free1
  have hlt := q3.lt
  have B4 := Lib.hid (Below.chain B3.out hb1); clear hb1 q2 q3
  go_wp2_with fail
  exact bodyPost_ret (v := .tuple #[.agg #[.int .i64 0, .slice none 0 0], .int .i64 6]) (by simp [results, Try.results22, go_sem, e0, e1]) rfl ⟨rfl, (B4.out.setCell (by simp; omega) _).setCell (by simp; omega) _⟩

set_option maxRecDepth 100000 in
theorem div_malformed (p q : LP) (s t : Value) (w : World) (hs : Ints w s p.c) (ht : Ints w t q.c) (hp : POk p) (hq : POk q) (h0 : q.c ≠ []) (h1 : nth q.c (q.c.length - 1) ≠ 1) (h2 : nth q.c (q.c.length - 1) ≠ -1) :
    Calls Try.prog 22 #[.agg #[.int .i64 p.low, s], .agg #[.int .i64 q.low, t]] w fun e w' => e = .returned (.tuple #[.agg #[.int .i64 0, .slice none 0 0], .int .i64 3]) ∧ Below w.heap.size w w' := by
  have ss := hs.isSl
  have st := ht.isSl
  have lt := ht.len
  obtain ⟨n, hn⟩ : ∃ n, q.c.length = n := ⟨_, rfl⟩
  have hn0 : 0 < n := by rw [← hn]; exact List.length_pos_iff.2 h0
  have hn2 : n ≤ 200 := by rw [← hn]; exact hq.len
  rw [hn] at lt h1 h2
  obtain ⟨m, hm⟩ : ∃ m, m = n - 1 := ⟨_, rfl⟩
  rw [← hm] at h1 h2
  have hmn : m < n := by omega
  have hmi : (n : Int) - 1 = (m : Int) := by omega
  have hnz : ((n : Int) == 0) = false := by rw [beq_eq_false_iff_ne]; omega
  have g1 : (nth q.c m != 1) = true := by simp [h1]
  have g2 : (nth q.c m != -1) = true := by simp [h2]
  have HN := Lib.hid hn
  obtain ⟨W3, hW3⟩ : ∃ W3, W3 = ((w.alloc (.cells #[.int .i64 p.low, s] 24)).alloc (.cells #[.int .i64 q.low, t] 24)).alloc (.cells #[.int .i64 0, .slice none 0 0] 24) := ⟨_, rfl⟩
  obtain ⟨p1, p2, p3, b3, hz3⟩ := three _ _ _ _ _ _ _ _ _ hW3
  have H := lboth_calls p q s t W3 (hs.below b3) (ht.below b3) hp hq
  have HT := Lib.hid (ht.below b3)
  have HH := Lib.hid H; have P2 := Lib.hid p2; have P3 := Lib.hid p3; have B3 := Lib.hid b3; have HZ3 := Lib.hid hz3; have HW3 := Lib.hid hW3.symm
  clear p1 p2 p3 b3 hz3 hW3 hs ht hp hq h0 H hn hm h1 h2
  go_enter Try.func22, Try.ntmps22
  go_wp2_with fail
  rw [HW3.out]
  refine HH.out.mono ?_
  rintro e u1 ⟨rfl, hb1⟩
  have q2 := P2.out.below hb1; have q3 := P3.out.below hb1
  have d0 := q2.cell0; have d1 := q2.cell1; have e0 := q3.cell0; have e1 := q3.cell1; have f0 := q3.free0; have f1 := q3.free1
  have c1 := (HT.out.below hb1).cell (k := m) (by rw [HN.out]; exact hmn)
  have hlt := q3.lt
  have B4 := Lib.hid (Below.chain B3.out hb1); clear hb1 q2 q3
  go_wp2_with fail
  exact bodyPost_ret (v := .tuple #[.agg #[.int .i64 0, .slice none 0 0], .int .i64 3]) (by simp [results, Try.results22, go_sem, e0, e1]) rfl ⟨rfl, (B4.out.setCell (by simp; omega) _).setCell (by simp; omega) _⟩

/-- What lies in memory between two rounds of Div. -/
structure DivSt (w wr : World) (pl ql : Int) (s t vr vc : Value) (rs cs : List Int) : Prop where
  p1 : Pair wr w.heap.size 24 (.int .i64 pl) s
  p2 : Pair wr (w.heap.size + 1) 24 (.int .i64 ql) t
  p3 : Pair wr (w.heap.size + 2) 24 (.int .i64 0) (.slice none 0 0)
  r : OwnI wr (w.heap.size + 3) vr rs
  c : OwnI wr (w.heap.size + 3) vc cs
  apart : ∀ k, Go.Sl.row vr = some k → Go.Sl.row vc ≠ some k
  below : Below w.heap.size w wr
theorem DivSt.setR {w wr : World} {pl ql : Int} {s t vr vc : Value} {rs cs : List Int} (h : DivSt w wr pl ql s t vr vc rs cs) {i : Nat} (hi : i < rs.length) (x : Int) : DivSt w (wr.setCell (vat vr i) (.int .i64 x)) pl ql s t vr vc (rs.set i x) cs := by
  have hg : w.heap.size + 3 ≤ vblk vr := h.r.ge hi
  have hcap : 0 < vcap vr := Go.Sl.Own.cap_of h.r (j := i) (by simpa using hi)
  exact ⟨h.p1.other (by omega) _ _, h.p2.other (by omega) _ _, h.p3.other (by omega) _ _, h.r.set hi x, h.c.setOther (fun k hk e => h.apart k (by rw [Go.Sl.row_some hcap]; exact congrArg some e) hk) _, h.apart, h.below.setCell (p := vat vr i) (by rw [vat_block]; omega) _⟩
theorem DivSt.setC {w wr : World} {pl ql : Int} {s t vr vc : Value} {rs cs : List Int} (h : DivSt w wr pl ql s t vr vc rs cs) {i : Nat} (hi : i < cs.length) (x : Int) : DivSt w (wr.setCell (vat vc i) (.int .i64 x)) pl ql s t vr vc rs (cs.set i x) := by
  have hg : w.heap.size + 3 ≤ vblk vc := h.c.ge hi
  have hcap : 0 < vcap vc := Go.Sl.Own.cap_of h.c (j := i) (by simpa using hi)
  exact ⟨h.p1.other (by omega) _ _, h.p2.other (by omega) _ _, h.p3.other (by omega) _ _, h.r.setOther (fun k hk e => h.apart k hk (by rw [Go.Sl.row_some hcap]; exact congrArg some e)) _, h.c.set hi x, h.apart, h.below.setCell (p := vat vc i) (by rw [vat_block]; omega) _⟩

set_option maxHeartbeats 4000000 in
set_option maxRecDepth 100000 in
/-- The product p of x and y, divided by y. -/
theorem div_exact_p (x q p : LP) (s t : Value) (w : World) (hs : Ints w s p.c) (ht : Ints w t q.c) (hp : POk p) (hq : POk q) (hx : POk x) (he : p = pmul x q) (h0 : q.c ≠ []) (hx0 : x.c ≠ []) (h1 : nth q.c (q.c.length - 1) = 1)
    (hb : n1 x.c * n1 q.c ≤ 1000000000000) (hb2 : n1 q.c ≤ 1000000000) :
    Calls Try.prog 22 #[.agg #[.int .i64 p.low, s], .agg #[.int .i64 q.low, t]] w fun e w' => ∃ u, e = .returned (.tuple #[.agg #[.int .i64 x.low, u], .int .i64 0]) ∧ OwnI w' w.heap.size u x.c ∧ Below w.heap.size w w' := by
  have ss := hs.isSl
  have st := ht.isSl
  have ls := hs.len
  have lt := ht.len
  have hex := pmul_exact hx.tr hq.tr hx0 h0
  have hpl : p.low = x.low + q.low := by rw [he, hex]
  have hpc : p.c = mull x.c q.c := by rw [he, hex]
  have hlen := mull_length x.c q.c hx0 h0
  obtain ⟨n, hn⟩ : ∃ n, q.c.length = n := ⟨_, rfl⟩
  obtain ⟨L, hL⟩ : ∃ L, x.c.length = L := ⟨_, rfl⟩
  have hn0 : 0 < n := by rw [← hn]; exact List.length_pos_iff.2 h0
  have hL0 : 0 < L := by rw [← hL]; exact List.length_pos_iff.2 hx0
  have hL2 : L ≤ 200 := by rw [← hL]; exact hx.len
  have hn2 : n ≤ 200 := by rw [← hn]; exact hq.len
  rw [hn, hL] at hlen
  obtain ⟨N, hN⟩ : ∃ N, p.c.length = N := ⟨_, rfl⟩
  rw [hpc, hlen] at hN
  have hplen : p.c.length = N := by rw [hpc, hlen, hN]
  rw [hplen] at ls
  have hNL : N + 1 = L + n := by omega
  have hN2 : N ≤ 400 := by omega
  rw [hn] at lt h1
  obtain ⟨m, hm⟩ : ∃ m, m = n - 1 := ⟨_, rfl⟩
  rw [← hm] at h1
  have hmn : m < n := by omega
  have hmi : (n : Int) - 1 = (m : Int) := by omega
  have hnz : ((n : Int) == 0) = false := by rw [beq_eq_false_iff_ne]; omega
  have hla := h1
  have hmk : max ((N : Int) - n + 1) 0 = (L : Int) := by omega
  have hxl1 := hx.lo1; have hxl2 := hx.lo2; have hql1 := hq.lo1; have hql2 := hq.lo2
  have hstart : ∀ u, evL p.c u = evL (x.c.take L) u * evL q.c u := fun u => by rw [hpc, evL_mull, ← hL, List.take_length]
  obtain ⟨W3, hW3⟩ : ∃ W3, W3 = ((w.alloc (.cells #[.int .i64 p.low, s] 24)).alloc (.cells #[.int .i64 q.low, t] 24)).alloc (.cells #[.int .i64 0, .slice none 0 0] 24) := ⟨_, rfl⟩
  obtain ⟨p1, p2, p3, b3, hz3⟩ := three _ _ _ _ _ _ _ _ _ hW3
  have H := lboth_calls p q s t W3 (hs.below b3) (ht.below b3) hp hq
  have HTW := Lib.hid ht
  have HT := Lib.hid (ht.below b3); have HS := Lib.hid (hs.below b3)
  have HH := Lib.hid H; have P1 := Lib.hid p1; have P2 := Lib.hid p2; have P3 := Lib.hid p3; have B3 := Lib.hid b3; have HZ3 := Lib.hid hz3; have HW3 := Lib.hid hW3.symm
  have HN := Lib.hid hn; have HLL := Lib.hid hL; have HPL := Lib.hid hplen; have HPLOW := Lib.hid hpl; have HLA := Lib.hid hla; have HST := Lib.hid hstart; have HB := Lib.hid hb; have HB2 := Lib.hid hb2; have HX := Lib.hid hx; have HNL := Lib.hid hNL; have HM := Lib.hid hm
  have HPC := Lib.hid hpc
  clear p1 p2 p3 b3 hz3 hW3 hs ht hp hq h0 H hn hm hL hplen hpl hpc hla hstart hb hb2 hx hNL he hex hlen hN hx0 h1
  go_enter Try.func22, Try.ntmps22
  go_wp2_with fail
  rw [HW3.out]
  refine HH.out.mono ?_
  rintro e u1 ⟨rfl, hb1⟩
  have q1 := P1.out.below hb1; have q2 := P2.out.below hb1; have q3 := P3.out.below hb1
  have a0 := q1.cell0; have a1 := q1.cell1; have d0 := q2.cell0; have d1 := q2.cell1
  have c1 := (HT.out.below hb1).cell (k := m) (by rw [HN.out]; exact hmn)
  rw [HLA.out] at c1
  have hz4 : w.heap.size + 3 ≤ u1.heap.size := by have := hb1.size; have := HZ3.out; omega
  have Q1 := Lib.hid q1; have Q2 := Lib.hid q2; have Q3 := Lib.hid q3; have B4 := Lib.hid (Below.chain B3.out hb1)
  have HS4 := Lib.hid (HS.out.below hb1); have HT4 := Lib.hid (HT.out.below hb1)
  clear hb1 q1 q2 q3
  go_wp2_with fail
  refine (clone_calls s p.c _ HS4.out (by rw [HPL.out]; omega)).mono ?_
  rintro e u2 ⟨vr, rfl, hr, hb2⟩
  have sr := hr.isSl
  have lr := hr.len
  rw [HPL.out] at lr
  have hz5 := hb2.size
  have q1 := Q1.out.below hb2; have q2 := Q2.out.below hb2; have q3 := Q3.out.below hb2
  have d0' := q2.cell0; have d1' := q2.cell1
  have R1 := Lib.hid q1; have R2 := Lib.hid q2; have R3 := Lib.hid q3; have HR := Lib.hid (hr.low hz4); have B5 := Lib.hid (Below.chain B4.out hb2); have HT5 := Lib.hid (HT4.out.below hb2)
  clear q1 q2 q3 hr hb2
  go_wp2_with (at_make; refine wpList_make rfl _ _ rfl _ _ L rfl rfl rfl rfl (by omega) ?_; intro vc w1 ho1 hg1 hlo1 hsz; have sc := ho1.isSl; have hb1 := below_grown_none (Below.refl _ _) hg1; have ST1 := Lib.hid (show DivSt w w1 p.low q.low s t vr vc p.c (List.replicate L 0) from ⟨R1.out.below hb1, R2.out.below hb1, R3.out.below hb1, HR.out.below hb1, ho1.low (by omega), fun k hk hk2 => by have h1 := (HR.out.lt k hk).2; have h2 := (ho1.lt k hk2).1; omega, Below.chain B5.out hb1⟩); have HT6 := Lib.hid (HT5.out.below hb1); have x1 := ST1.out.p2.cell1; clear ho1 hg1 hb1)
  go_loopw [11] (fun iv wr => ∃ (k : Nat) (rs : List Int), k ≤ L ∧ iv = .int .i64 ((k : Int) - 1) ∧ rs.length = N ∧ DivSt w wr p.low q.low s t vr vc rs (fillUp x.c k) ∧ (∀ u, evL rs u = evL (x.c.take k) u * evL q.c u)) (fun iv _ => (intOf iv + 1).toNat)
  case atStart => exact ⟨L, p.c, Nat.le_refl _, rfl, HPL.out, by rw [← HLL.out, fillUp_none, HLL.out]; exact ST1.out, HST.out⟩
  case round =>
    obtain ⟨k, rs, hk, rfl, hrl, hst, hev⟩ := hrel
    have sr' := hst.r.isSl
    have sc' := hst.c.isSl
    have lr' := hst.r.len
    have lc' := hst.c.len
    rw [hrl] at lr'
    rw [fillUp_length (by have := HLL.out; omega), HLL.out] at lc'
    have q0 := hst.p1.cell0; have q1 := hst.p1.cell1; have q2 := hst.p2.cell0; have q3 := hst.p2.cell1
    have HSTT := Lib.hid hst; have HEV := Lib.hid hev; have HRL := Lib.hid hrl; clear hst hev hrl
    by_cases hk0 : 0 < k
    · obtain ⟨i, hi⟩ : ∃ i, k = i + 1 := ⟨k - 1, by omega⟩
      subst hi
      have hki : (((i + 1 : Nat) : Int) - 1) = (i : Int) := by omega
      rw [hki]
      have hiL : i < L := by omega
      have him : i + m < N := by have := HNL.out; omega
      have hidx : (i : Int) + n - 1 = ((i + m : Nat) : Int) := by omega
      have htop : nth rs (i + m) = nth x.c i := by
        rw [rest_top HEV.out (by rw [HLL.out]; exact hiL) (by rw [HN.out]; have := HM.out; omega), HLA.out]
        first | rw [Int.mul_one] | rw [Int.mul_neg, Int.mul_one]
      have y1 := HSTT.out.r.cell (k := i + m) (by rw [HRL.out]; exact him)
      rw [htop] at y1
      have hq1 := HX.out.co.2 _ (nth_mem (show i < x.c.length by rw [HLL.out]; exact hiL))
      obtain ⟨hq1, hq2⟩ := hq1
      have g1 : ¬ nth x.c i < -100000000 := by omega
      have g2 : ¬ 100000000 < nth x.c i := by omega
      have y2 := HSTT.out.c.frozen (k := i) (by rw [fillUp_length (by rw [HLL.out]; omega), HLL.out]; exact hiL)
      have y3 := HSTT.out.c.cell (k := i) (by rw [fillUp_length (by rw [HLL.out]; omega), HLL.out]; exact hiL)
      have hset := HSTT.out.setC (i := i) (by rw [fillUp_length (by rw [HLL.out]; omega), HLL.out]; exact hiL) (nth x.c i)
      rw [fillUp_set (by rw [HLL.out]; exact hiL)] at hset
      have z1 := hset.p2.cell1
      have HSET := Lib.hid hset; have HTOP := Lib.hid htop; have HIDX := Lib.hid hidx; clear hset htop
      have hwi : IntKind.i64.wrap ((i : Int) + n - 1) = ((i + m : Nat) : Int) := by rw [hidx]; exact IntWalk.i64_in _ (by omega)
      go_wp2_with fail
      clear hwi
      have hn1s := rest_n1 HEV.out
      have HN1S := Lib.hid hn1s; clear hn1s
      obtain ⟨W5, hW5⟩ : ∃ W5, W5 = wr.setCell (vat vc i) (.int .i64 (nth x.c i)) := ⟨_, rfl⟩
      rw [← hW5] at HSET ⊢
      clear hW5
      obtain ⟨X, hX⟩ : ∃ X, nth x.c i = X := ⟨_, rfl⟩
      simp only [hX] at hq1 hq2 ⊢
      have HXX := Lib.hid hX; clear hX g1 g2 y1 y2 y3 z1
      go_loopw [81] (fun jv wr => ∃ (j : Nat) (rs : List Int), j ≤ n ∧ jv = .int .i64 j ∧ rs.length = N ∧ DivSt w wr p.low q.low s t vr vc rs (fillUp x.c i) ∧ (∀ u, evL rs u = evL (x.c.take (i + 1)) u * evL q.c u + -(X : Rat) * (u ^ i * evL (q.c.take j) u)) ∧ n1 rs ≤ n1 x.c * n1 q.c + X.natAbs * n1 (q.c.take j)) (fun jv _ => n - (intOf jv).toNat)
      case atStart => exact ⟨0, rs, Nat.zero_le _, rfl, HRL.out, HSET.out, fun u => by rw [HEV.out]; exact ev_start _ _ _ _ _, by have := HN1S.out; omega⟩
      case round =>
        obtain ⟨j, rs2, hj, rfl, hrl, hst, hev, hn1⟩ := hrel
        have sr2 := hst.r.isSl
        have lr2 := hst.r.len
        rw [hrl] at lr2
        have q0 := hst.p1.cell0; have q1 := hst.p1.cell1; have q2 := hst.p2.cell0; have q3 := hst.p2.cell1
        have HST2 := Lib.hid hst; have HEV2 := Lib.hid hev; have HRL2 := Lib.hid hrl; have HN2 := Lib.hid hn1; clear hst hev hrl hn1
        by_cases hjn : j < n
        · have hij : i + j < N := by have := HNL.out; omega
          have v1 := (HTW.out.below HST2.out.below).cell (k := j) (by rw [HN.out]; exact hjn)
          have v2 := HST2.out.r.cell (k := i + j) (by rw [HRL2.out]; exact hij)
          have v3 := HST2.out.r.frozen (k := i + j) (by rw [HRL2.out]; exact hij)
          have b1 := n1_take_succ q.c j (by rw [HN.out]; exact hjn)
          have b2 := n1_take_le q.c (j + 1)
          have b3 := n1_nth rs2 (i + j)
          have b4 : (X * nth q.c j).natAbs = X.natAbs * (nth q.c j).natAbs := Int.natAbs_mul _ _
          have b5 : X.natAbs * n1 (q.c.take (j + 1)) ≤ 100000000 * 1000000000 := Nat.mul_le_mul (by omega) (Nat.le_trans b2 HB2.out)
          have b6 : X.natAbs * n1 (q.c.take (j + 1)) = X.natAbs * n1 (q.c.take j) + (X * nth q.c j).natAbs := by rw [b1, Nat.mul_add, b4]
          have HSTEP := Lib.hid (fun u => ev_stepS (cs := rs2) (A := q.c) (d := i) (j := j) HEV2.out (by rw [HRL2.out]; exact hij) (by rw [HN.out]; exact hjn) u)
          have HNS := Lib.hid (n1_stepS (x := X * nth q.c j) HN2.out (show i + j < rs2.length by rw [HRL2.out]; exact hij))
          have HTS := Lib.hid b6
          have HS2 := Lib.hid (HST2.out.setR (show i + j < rs2.length by rw [HRL2.out]; exact hij) (nth rs2 (i + j) - X * nth q.c j))
          have h1 : -9000000000000000000 ≤ nth rs2 (i + j) - X * nth q.c j := by have := HN2.out; have := HB.out; omega
          have h2 : nth rs2 (i + j) - X * nth q.c j ≤ 9000000000000000000 := by have := HN2.out; have := HB.out; omega
          have h3 : -9000000000000000000 ≤ X * nth q.c j := by omega
          have h4 : X * nth q.c j ≤ 9000000000000000000 := by omega
          clear b1 b2 b3 b4 b5 b6
          go_wp2_with fail
          go_roundw
          case rel => exact ⟨j + 1, _, by omega, by go_num, by rw [List.length_set]; exact HRL2.out, HS2.out, fun u => HSTEP.out u, by rw [HTS.out, ← Nat.add_assoc]; exact HNS.out⟩
          case measure => simp [intOf]; omega
        · have hfull : q.c.take j = q.c := List.take_of_length_le (by have := HN.out; omega)
          have HF := Lib.hid hfull; clear hfull
          go_wp2_with fail
          go_roundw
          case rel => exact ⟨i, rs2, by omega, by first | rfl | go_num, HRL2.out, HST2.out, rest_next (by rw [HLL.out]; exact hiL) (fun u => by have h := HEV2.out u; rw [HF.out, ← HXX.out] at h; exact h)⟩
          case measure => simp [intOf]
    · obtain rfl : k = 0 := by omega
      have hzero := rest_zero HEV.out
      have HZERO := Lib.hid hzero; clear hzero
      go_wp2_with fail
      refine (containsFunc_none _ rs _ _ (enters_any (Go.Proofs.enters_of Try.func63 (by kernel_rfl) rfl)) _ HSTT.out.r.ints (fun y hy => by rw [HZERO.out y hy]; exact div1_zero _)).mono ?_
      rintro e w' ⟨rfl, rfl⟩
      have hfu : OwnI wr (w.heap.size + 3) vc x.c := by have h := HSTT.out.c; rw [fillUp_all] at h; exact h
      have htr : trimP (p.low - q.low) x.c = x := by rw [show p.low - q.low = x.low by have := HPLOW.out; omega]; exact trimP_self HX.out.tr
      have hpb : -2000 ≤ p.low := by have := HPLOW.out; omega
      have hpb2 : p.low ≤ 2000 := by have := HPLOW.out; omega
      have HFU := Lib.hid hfu; have HTR := Lib.hid htr; clear hfu htr
      go_wp2_with fail
      refine (trim_calls (p.low - q.low) _ x.c _ HFU.out.ints (by rw [HLL.out]; omega) (by omega) (by omega)).mono ?_
      rw [HTR.out]
      rintro e u7 ⟨vt, rfl, ht7, hb7⟩
      have s7 := ht7.isSl
      have r3 := HSTT.out.p3.below hb7
      have hz7 := hb7.size
      have hlt3 := HSTT.out.p3.lt
      have HT7 := Lib.hid (ht7.low (show w.heap.size + 3 ≤ wr.heap.size by omega)); have R7 := Lib.hid r3; have B7 := Lib.hid (HSTT.out.below.trans (hb7.mono (by omega))); clear ht7 hb7 r3
      go_wp2_with fail
      refine (fit_calls x vt (w.heap.size + 3) _ HT7.out (by omega) HX.out).mono ?_
      rintro e u8 ⟨rfl, hv8, hb8⟩
      have r8 := R7.out.below hb8
      have e0 := r8.cell0; have e1 := r8.cell1; have f0 := r8.free0; have f1 := r8.free1
      have hz8 := hb8.size
      have B8 := Lib.hid (B7.out.trans (hb8.mono (by omega))); have HV8 := Lib.hid hv8; clear hb8 hv8 r8
      go_wp2_with fail
      refine bodyPost_ret (v := .tuple #[.agg #[.int .i64 x.low, vt], .int .i64 0]) (by simp [results, Try.results22, go_sem, e0, e1]) rfl ⟨_, rfl, ?_, (B8.out.setCell (by simp; omega) _).setCell (by simp; omega) _⟩
      exact ((HV8.out.setOther (fun k hk e => by have := (HV8.out.lt k hk).1; simp at e; omega) _).setOther (fun k hk e => by have := (HV8.out.lt k hk).1; simp at e; omega) _).low (by omega)

set_option maxHeartbeats 4000000 in
set_option maxRecDepth 100000 in
/-- The product p of x and y, divided by y. -/
theorem div_exact_m (x q p : LP) (s t : Value) (w : World) (hs : Ints w s p.c) (ht : Ints w t q.c) (hp : POk p) (hq : POk q) (hx : POk x) (he : p = pmul x q) (h0 : q.c ≠ []) (hx0 : x.c ≠ []) (h1 : nth q.c (q.c.length - 1) = (-1))
    (hb : n1 x.c * n1 q.c ≤ 1000000000000) (hb2 : n1 q.c ≤ 1000000000) :
    Calls Try.prog 22 #[.agg #[.int .i64 p.low, s], .agg #[.int .i64 q.low, t]] w fun e w' => ∃ u, e = .returned (.tuple #[.agg #[.int .i64 x.low, u], .int .i64 0]) ∧ OwnI w' w.heap.size u x.c ∧ Below w.heap.size w w' := by
  have ss := hs.isSl
  have st := ht.isSl
  have ls := hs.len
  have lt := ht.len
  have hex := pmul_exact hx.tr hq.tr hx0 h0
  have hpl : p.low = x.low + q.low := by rw [he, hex]
  have hpc : p.c = mull x.c q.c := by rw [he, hex]
  have hlen := mull_length x.c q.c hx0 h0
  obtain ⟨n, hn⟩ : ∃ n, q.c.length = n := ⟨_, rfl⟩
  obtain ⟨L, hL⟩ : ∃ L, x.c.length = L := ⟨_, rfl⟩
  have hn0 : 0 < n := by rw [← hn]; exact List.length_pos_iff.2 h0
  have hL0 : 0 < L := by rw [← hL]; exact List.length_pos_iff.2 hx0
  have hL2 : L ≤ 200 := by rw [← hL]; exact hx.len
  have hn2 : n ≤ 200 := by rw [← hn]; exact hq.len
  rw [hn, hL] at hlen
  obtain ⟨N, hN⟩ : ∃ N, p.c.length = N := ⟨_, rfl⟩
  rw [hpc, hlen] at hN
  have hplen : p.c.length = N := by rw [hpc, hlen, hN]
  rw [hplen] at ls
  have hNL : N + 1 = L + n := by omega
  have hN2 : N ≤ 400 := by omega
  rw [hn] at lt h1
  obtain ⟨m, hm⟩ : ∃ m, m = n - 1 := ⟨_, rfl⟩
  rw [← hm] at h1
  have hmn : m < n := by omega
  have hmi : (n : Int) - 1 = (m : Int) := by omega
  have hnz : ((n : Int) == 0) = false := by rw [beq_eq_false_iff_ne]; omega
  have hla := h1
  have hmk : max ((N : Int) - n + 1) 0 = (L : Int) := by omega
  have hxl1 := hx.lo1; have hxl2 := hx.lo2; have hql1 := hq.lo1; have hql2 := hq.lo2
  have hstart : ∀ u, evL p.c u = evL (x.c.take L) u * evL q.c u := fun u => by rw [hpc, evL_mull, ← hL, List.take_length]
  obtain ⟨W3, hW3⟩ : ∃ W3, W3 = ((w.alloc (.cells #[.int .i64 p.low, s] 24)).alloc (.cells #[.int .i64 q.low, t] 24)).alloc (.cells #[.int .i64 0, .slice none 0 0] 24) := ⟨_, rfl⟩
  obtain ⟨p1, p2, p3, b3, hz3⟩ := three _ _ _ _ _ _ _ _ _ hW3
  have H := lboth_calls p q s t W3 (hs.below b3) (ht.below b3) hp hq
  have HTW := Lib.hid ht
  have HT := Lib.hid (ht.below b3); have HS := Lib.hid (hs.below b3)
  have HH := Lib.hid H; have P1 := Lib.hid p1; have P2 := Lib.hid p2; have P3 := Lib.hid p3; have B3 := Lib.hid b3; have HZ3 := Lib.hid hz3; have HW3 := Lib.hid hW3.symm
  have HN := Lib.hid hn; have HLL := Lib.hid hL; have HPL := Lib.hid hplen; have HPLOW := Lib.hid hpl; have HLA := Lib.hid hla; have HST := Lib.hid hstart; have HB := Lib.hid hb; have HB2 := Lib.hid hb2; have HX := Lib.hid hx; have HNL := Lib.hid hNL; have HM := Lib.hid hm
  have HPC := Lib.hid hpc
  clear p1 p2 p3 b3 hz3 hW3 hs ht hp hq h0 H hn hm hL hplen hpl hpc hla hstart hb hb2 hx hNL he hex hlen hN hx0 h1
  go_enter Try.func22, Try.ntmps22
  go_wp2_with fail
  rw [HW3.out]
  refine HH.out.mono ?_
  rintro e u1 ⟨rfl, hb1⟩
  have q1 := P1.out.below hb1; have q2 := P2.out.below hb1; have q3 := P3.out.below hb1
  have a0 := q1.cell0; have a1 := q1.cell1; have d0 := q2.cell0; have d1 := q2.cell1
  have c1 := (HT.out.below hb1).cell (k := m) (by rw [HN.out]; exact hmn)
  rw [HLA.out] at c1
  have hz4 : w.heap.size + 3 ≤ u1.heap.size := by have := hb1.size; have := HZ3.out; omega
  have Q1 := Lib.hid q1; have Q2 := Lib.hid q2; have Q3 := Lib.hid q3; have B4 := Lib.hid (Below.chain B3.out hb1)
  have HS4 := Lib.hid (HS.out.below hb1); have HT4 := Lib.hid (HT.out.below hb1)
  clear hb1 q1 q2 q3
  go_wp2_with fail
  refine (clone_calls s p.c _ HS4.out (by rw [HPL.out]; omega)).mono ?_
  rintro e u2 ⟨vr, rfl, hr, hb2⟩
  have sr := hr.isSl
  have lr := hr.len
  rw [HPL.out] at lr
  have hz5 := hb2.size
  have q1 := Q1.out.below hb2; have q2 := Q2.out.below hb2; have q3 := Q3.out.below hb2
  have d0' := q2.cell0; have d1' := q2.cell1
  have R1 := Lib.hid q1; have R2 := Lib.hid q2; have R3 := Lib.hid q3; have HR := Lib.hid (hr.low hz4); have B5 := Lib.hid (Below.chain B4.out hb2); have HT5 := Lib.hid (HT4.out.below hb2)
  clear q1 q2 q3 hr hb2
  go_wp2_with (at_make; refine wpList_make rfl _ _ rfl _ _ L rfl rfl rfl rfl (by omega) ?_; intro vc w1 ho1 hg1 hlo1 hsz; have sc := ho1.isSl; have hb1 := below_grown_none (Below.refl _ _) hg1; have ST1 := Lib.hid (show DivSt w w1 p.low q.low s t vr vc p.c (List.replicate L 0) from ⟨R1.out.below hb1, R2.out.below hb1, R3.out.below hb1, HR.out.below hb1, ho1.low (by omega), fun k hk hk2 => by have h1 := (HR.out.lt k hk).2; have h2 := (ho1.lt k hk2).1; omega, Below.chain B5.out hb1⟩); have HT6 := Lib.hid (HT5.out.below hb1); have x1 := ST1.out.p2.cell1; clear ho1 hg1 hb1)
  go_loopw [11] (fun iv wr => ∃ (k : Nat) (rs : List Int), k ≤ L ∧ iv = .int .i64 ((k : Int) - 1) ∧ rs.length = N ∧ DivSt w wr p.low q.low s t vr vc rs (fillUp x.c k) ∧ (∀ u, evL rs u = evL (x.c.take k) u * evL q.c u)) (fun iv _ => (intOf iv + 1).toNat)
  case atStart => exact ⟨L, p.c, Nat.le_refl _, rfl, HPL.out, by rw [← HLL.out, fillUp_none, HLL.out]; exact ST1.out, HST.out⟩
  case round =>
    obtain ⟨k, rs, hk, rfl, hrl, hst, hev⟩ := hrel
    have sr' := hst.r.isSl
    have sc' := hst.c.isSl
    have lr' := hst.r.len
    have lc' := hst.c.len
    rw [hrl] at lr'
    rw [fillUp_length (by have := HLL.out; omega), HLL.out] at lc'
    have q0 := hst.p1.cell0; have q1 := hst.p1.cell1; have q2 := hst.p2.cell0; have q3 := hst.p2.cell1
    have HSTT := Lib.hid hst; have HEV := Lib.hid hev; have HRL := Lib.hid hrl; clear hst hev hrl
    by_cases hk0 : 0 < k
    · obtain ⟨i, hi⟩ : ∃ i, k = i + 1 := ⟨k - 1, by omega⟩
      subst hi
      have hki : (((i + 1 : Nat) : Int) - 1) = (i : Int) := by omega
      rw [hki]
      have hiL : i < L := by omega
      have him : i + m < N := by have := HNL.out; omega
      have hidx : (i : Int) + n - 1 = ((i + m : Nat) : Int) := by omega
      have htop : nth rs (i + m) = -(nth x.c i) := by
        rw [rest_top HEV.out (by rw [HLL.out]; exact hiL) (by rw [HN.out]; have := HM.out; omega), HLA.out]
        first | rw [Int.mul_one] | rw [Int.mul_neg, Int.mul_one]
      have y1 := HSTT.out.r.cell (k := i + m) (by rw [HRL.out]; exact him)
      rw [htop] at y1
      have hq1 := HX.out.co.2 _ (nth_mem (show i < x.c.length by rw [HLL.out]; exact hiL))
      obtain ⟨hq1, hq2⟩ := hq1
      have g1 : ¬ nth x.c i < -100000000 := by omega
      have g2 : ¬ 100000000 < nth x.c i := by omega
      have y2 := HSTT.out.c.frozen (k := i) (by rw [fillUp_length (by rw [HLL.out]; omega), HLL.out]; exact hiL)
      have y3 := HSTT.out.c.cell (k := i) (by rw [fillUp_length (by rw [HLL.out]; omega), HLL.out]; exact hiL)
      have hset := HSTT.out.setC (i := i) (by rw [fillUp_length (by rw [HLL.out]; omega), HLL.out]; exact hiL) (nth x.c i)
      rw [fillUp_set (by rw [HLL.out]; exact hiL)] at hset
      have z1 := hset.p2.cell1
      have HSET := Lib.hid hset; have HTOP := Lib.hid htop; have HIDX := Lib.hid hidx; clear hset htop
      have hwi : IntKind.i64.wrap ((i : Int) + n - 1) = ((i + m : Nat) : Int) := by rw [hidx]; exact IntWalk.i64_in _ (by omega)
      go_wp2_with fail
      clear hwi
      have hn1s := rest_n1 HEV.out
      have HN1S := Lib.hid hn1s; clear hn1s
      obtain ⟨W5, hW5⟩ : ∃ W5, W5 = wr.setCell (vat vc i) (.int .i64 (nth x.c i)) := ⟨_, rfl⟩
      rw [← hW5] at HSET ⊢
      clear hW5
      obtain ⟨X, hX⟩ : ∃ X, nth x.c i = X := ⟨_, rfl⟩
      simp only [hX] at hq1 hq2 ⊢
      have HXX := Lib.hid hX; clear hX g1 g2 y1 y2 y3 z1
      go_loopw [81] (fun jv wr => ∃ (j : Nat) (rs : List Int), j ≤ n ∧ jv = .int .i64 j ∧ rs.length = N ∧ DivSt w wr p.low q.low s t vr vc rs (fillUp x.c i) ∧ (∀ u, evL rs u = evL (x.c.take (i + 1)) u * evL q.c u + -(X : Rat) * (u ^ i * evL (q.c.take j) u)) ∧ n1 rs ≤ n1 x.c * n1 q.c + X.natAbs * n1 (q.c.take j)) (fun jv _ => n - (intOf jv).toNat)
      case atStart => exact ⟨0, rs, Nat.zero_le _, rfl, HRL.out, HSET.out, fun u => by rw [HEV.out]; exact ev_start _ _ _ _ _, by have := HN1S.out; omega⟩
      case round =>
        obtain ⟨j, rs2, hj, rfl, hrl, hst, hev, hn1⟩ := hrel
        have sr2 := hst.r.isSl
        have lr2 := hst.r.len
        rw [hrl] at lr2
        have q0 := hst.p1.cell0; have q1 := hst.p1.cell1; have q2 := hst.p2.cell0; have q3 := hst.p2.cell1
        have HST2 := Lib.hid hst; have HEV2 := Lib.hid hev; have HRL2 := Lib.hid hrl; have HN2 := Lib.hid hn1; clear hst hev hrl hn1
        by_cases hjn : j < n
        · have hij : i + j < N := by have := HNL.out; omega
          have v1 := (HTW.out.below HST2.out.below).cell (k := j) (by rw [HN.out]; exact hjn)
          have v2 := HST2.out.r.cell (k := i + j) (by rw [HRL2.out]; exact hij)
          have v3 := HST2.out.r.frozen (k := i + j) (by rw [HRL2.out]; exact hij)
          have b1 := n1_take_succ q.c j (by rw [HN.out]; exact hjn)
          have b2 := n1_take_le q.c (j + 1)
          have b3 := n1_nth rs2 (i + j)
          have b4 : (X * nth q.c j).natAbs = X.natAbs * (nth q.c j).natAbs := Int.natAbs_mul _ _
          have b5 : X.natAbs * n1 (q.c.take (j + 1)) ≤ 100000000 * 1000000000 := Nat.mul_le_mul (by omega) (Nat.le_trans b2 HB2.out)
          have b6 : X.natAbs * n1 (q.c.take (j + 1)) = X.natAbs * n1 (q.c.take j) + (X * nth q.c j).natAbs := by rw [b1, Nat.mul_add, b4]
          have HSTEP := Lib.hid (fun u => ev_stepS (cs := rs2) (A := q.c) (d := i) (j := j) HEV2.out (by rw [HRL2.out]; exact hij) (by rw [HN.out]; exact hjn) u)
          have HNS := Lib.hid (n1_stepS (x := X * nth q.c j) HN2.out (show i + j < rs2.length by rw [HRL2.out]; exact hij))
          have HTS := Lib.hid b6
          have HS2 := Lib.hid (HST2.out.setR (show i + j < rs2.length by rw [HRL2.out]; exact hij) (nth rs2 (i + j) - X * nth q.c j))
          have h1 : -9000000000000000000 ≤ nth rs2 (i + j) - X * nth q.c j := by have := HN2.out; have := HB.out; omega
          have h2 : nth rs2 (i + j) - X * nth q.c j ≤ 9000000000000000000 := by have := HN2.out; have := HB.out; omega
          have h3 : -9000000000000000000 ≤ X * nth q.c j := by omega
          have h4 : X * nth q.c j ≤ 9000000000000000000 := by omega
          clear b1 b2 b3 b4 b5 b6
          go_wp2_with fail
          go_roundw
          case rel => exact ⟨j + 1, _, by omega, by go_num, by rw [List.length_set]; exact HRL2.out, HS2.out, fun u => HSTEP.out u, by rw [HTS.out, ← Nat.add_assoc]; exact HNS.out⟩
          case measure => simp [intOf]; omega
        · have hfull : q.c.take j = q.c := List.take_of_length_le (by have := HN.out; omega)
          have HF := Lib.hid hfull; clear hfull
          go_wp2_with fail
          go_roundw
          case rel => exact ⟨i, rs2, by omega, by first | rfl | go_num, HRL2.out, HST2.out, rest_next (by rw [HLL.out]; exact hiL) (fun u => by have h := HEV2.out u; rw [HF.out, ← HXX.out] at h; exact h)⟩
          case measure => simp [intOf]
    · obtain rfl : k = 0 := by omega
      have hzero := rest_zero HEV.out
      have HZERO := Lib.hid hzero; clear hzero
      go_wp2_with fail
      refine (containsFunc_none _ rs _ _ (enters_any (Go.Proofs.enters_of Try.func63 (by kernel_rfl) rfl)) _ HSTT.out.r.ints (fun y hy => by rw [HZERO.out y hy]; exact div1_zero _)).mono ?_
      rintro e w' ⟨rfl, rfl⟩
      have hfu : OwnI wr (w.heap.size + 3) vc x.c := by have h := HSTT.out.c; rw [fillUp_all] at h; exact h
      have htr : trimP (p.low - q.low) x.c = x := by rw [show p.low - q.low = x.low by have := HPLOW.out; omega]; exact trimP_self HX.out.tr
      have hpb : -2000 ≤ p.low := by have := HPLOW.out; omega
      have hpb2 : p.low ≤ 2000 := by have := HPLOW.out; omega
      have HFU := Lib.hid hfu; have HTR := Lib.hid htr; clear hfu htr
      go_wp2_with fail
      refine (trim_calls (p.low - q.low) _ x.c _ HFU.out.ints (by rw [HLL.out]; omega) (by omega) (by omega)).mono ?_
      rw [HTR.out]
      rintro e u7 ⟨vt, rfl, ht7, hb7⟩
      have s7 := ht7.isSl
      have r3 := HSTT.out.p3.below hb7
      have hz7 := hb7.size
      have hlt3 := HSTT.out.p3.lt
      have HT7 := Lib.hid (ht7.low (show w.heap.size + 3 ≤ wr.heap.size by omega)); have R7 := Lib.hid r3; have B7 := Lib.hid (HSTT.out.below.trans (hb7.mono (by omega))); clear ht7 hb7 r3
      go_wp2_with fail
      refine (fit_calls x vt (w.heap.size + 3) _ HT7.out (by omega) HX.out).mono ?_
      rintro e u8 ⟨rfl, hv8, hb8⟩
      have r8 := R7.out.below hb8
      have e0 := r8.cell0; have e1 := r8.cell1; have f0 := r8.free0; have f1 := r8.free1
      have hz8 := hb8.size
      have B8 := Lib.hid (B7.out.trans (hb8.mono (by omega))); have HV8 := Lib.hid hv8; clear hb8 hv8 r8
      go_wp2_with fail
      refine bodyPost_ret (v := .tuple #[.agg #[.int .i64 x.low, vt], .int .i64 0]) (by simp [results, Try.results22, go_sem, e0, e1]) rfl ⟨_, rfl, ?_, (B8.out.setCell (by simp; omega) _).setCell (by simp; omega) _⟩
      exact ((HV8.out.setOther (fun k hk e => by have := (HV8.out.lt k hk).1; simp at e; omega) _).setOther (fun k hk e => by have := (HV8.out.lt k hk).1; simp at e; omega) _).low (by omega)


end Go.Proofs.Ytkimbhmijgfhnaa

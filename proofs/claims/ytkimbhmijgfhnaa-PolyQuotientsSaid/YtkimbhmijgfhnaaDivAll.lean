/- laurent.Div walked: 0 divided by a polynomial; all cases in one. -/
import Derived.Test.YtkimbhmijgfhnaaDiv
namespace Go.Proofs.Ytkimbhmijgfhnaa
open Go.RowKit Go.Sl

set_option maxHeartbeats 4000000 in
set_option maxRecDepth 100000 in
/-- 0 divided by q. -/
theorem div_nil_p (q p : LP) (s t : Value) (w : World) (hs : Ints w s p.c) (ht : Ints w t q.c) (hp : POk p) (hq : POk q) (he : p.c = []) (h0 : q.c ≠ []) (h1 : nth q.c (q.c.length - 1) = 1) :
    Calls Try.prog 22 #[.agg #[.int .i64 p.low, s], .agg #[.int .i64 q.low, t]] w fun e w' => ∃ u, e = .returned (.tuple #[.agg #[.int .i64 pzero.low, u], .int .i64 0]) ∧ OwnI w' w.heap.size u pzero.c ∧ Below w.heap.size w w' := by
  have ss := hs.isSl
  have st := ht.isSl
  have ls := hs.len
  have lt := ht.len
  obtain ⟨n, hn⟩ : ∃ n, q.c.length = n := ⟨_, rfl⟩
  have hn0 : 0 < n := by rw [← hn]; exact List.length_pos_iff.2 h0
  have hn2 : n ≤ 200 := by rw [← hn]; exact hq.len
  have hplen : p.c.length = 0 := by rw [he]; rfl
  rw [hplen] at ls
  rw [hn] at lt h1
  obtain ⟨m, hm⟩ : ∃ m, m = n - 1 := ⟨_, rfl⟩
  rw [← hm] at h1
  have hmn : m < n := by omega
  have hmi : (n : Int) - 1 = (m : Int) := by omega
  have hnz : ((n : Int) == 0) = false := by rw [beq_eq_false_iff_ne]; omega
  have hla := h1
  have hmk : max (-(m : Int)) 0 = 0 := by omega
  have hmk2 : max (0 - (n : Int) + 1) 0 = 0 := by omega
  have hmk3 : max (-(n : Int) + 1) 0 = 0 := by omega
  have hpl : p.low = 0 := hp.tr.zero he
  have hql1 := hq.lo1; have hql2 := hq.lo2
  obtain ⟨W3, hW3⟩ : ∃ W3, W3 = ((w.alloc (.cells #[.int .i64 p.low, s] 24)).alloc (.cells #[.int .i64 q.low, t] 24)).alloc (.cells #[.int .i64 0, .slice none 0 0] 24) := ⟨_, rfl⟩
  obtain ⟨p1, p2, p3, b3, hz3⟩ := three _ _ _ _ _ _ _ _ _ hW3
  have H := lboth_calls p q s t W3 (hs.below b3) (ht.below b3) hp hq
  have HT := Lib.hid (ht.below b3); have HS := Lib.hid (hs.below b3)
  have HH := Lib.hid H; have P1 := Lib.hid p1; have P2 := Lib.hid p2; have P3 := Lib.hid p3; have B3 := Lib.hid b3; have HZ3 := Lib.hid hz3; have HW3 := Lib.hid hW3.symm
  have HN := Lib.hid hn; have HPL := Lib.hid hplen; have HPLOW := Lib.hid hpl; have HLA := Lib.hid hla; have HPC := Lib.hid he
  clear p1 p2 p3 b3 hz3 hW3 hs ht hp hq h0 H hn hm hplen hpl hla he h1
  go_enter Try.func22, Try.ntmps22
  go_wp2_with fail
  rw [HW3.out]
  refine HH.out.mono ?_
  rintro e u1 ⟨rfl, hb1⟩
  have q1 := P1.out.below hb1; have q2 := P2.out.below hb1; have q3 := P3.out.below hb1
  have a0 := q1.cell0; have a1 := q1.cell1; have d0 := q2.cell0; have d1 := q2.cell1
  have c1 := (HT.out.below hb1).cell (k := m) (by rw [HN.out]; exact hmn)
  rw [HLA.out] at c1
  have hz4 : w.heap.size + 3 ≤ u1.heap.size := by have := hb1.size; have := HZ3.out; omega
  have Q1 := Lib.hid q1; have Q2 := Lib.hid q2; have Q3 := Lib.hid q3; have B4 := Lib.hid (Below.chain B3.out hb1)
  have HS4 := Lib.hid (HS.out.below hb1)
  clear hb1 q1 q2 q3
  go_wp2_with fail
  refine (clone_calls s p.c _ HS4.out (by rw [HPL.out]; omega)).mono ?_
  rintro e u2 ⟨vr, rfl, hr, hb2⟩
  have sr := hr.isSl
  have lr := hr.len
  rw [HPL.out] at lr
  have hz5 := hb2.size
  have q1 := Q1.out.below hb2; have q2 := Q2.out.below hb2; have q3 := Q3.out.below hb2
  have a0' := q1.cell0; have d0' := q2.cell0; have d1' := q2.cell1
  have R1 := Lib.hid q1; have R2 := Lib.hid q2; have R3 := Lib.hid q3; have HR := Lib.hid (hr.low hz4); have B5 := Lib.hid (Below.chain B4.out hb2)
  clear q1 q2 q3 hr hb2
  go_wp2_with (at_make; refine wpList_make rfl _ _ rfl _ _ 0 rfl rfl rfl rfl (by omega) ?_; intro vc w1 ho1 hg1 hlo1 hsz; have sc := ho1.isSl; have hb1 := below_grown_none (Below.refl _ _) hg1; have g1 := R1.out.below hb1; have g2 := R2.out.below hb1; have G3 := Lib.hid (R3.out.below hb1); have HR1 := Lib.hid (HR.out.below hb1); have B6 := Lib.hid (Below.chain B5.out hb1); have a2 := g1.cell0; have a3 := g2.cell0; have HC := Lib.hid ho1; clear ho1 hg1 hb1 g1 g2)
  go_loopw [11] (fun iv wr => iv = .int .i64 (-1) ∧ wr = w1) (fun _ _ => 0)
  case atStart => exact ⟨rfl, rfl⟩
  case round =>
    obtain ⟨rfl, hwr⟩ := hrel
    subst hwr
    go_wp2_with fail
    refine (containsFunc_none _ p.c _ _ (enters_any (Go.Proofs.enters_of Try.func63 (by kernel_rfl) rfl)) _ HR1.out.ints (fun y hy => by rw [HPC.out] at hy; cases hy)).mono ?_
    rintro e w' ⟨rfl, rfl⟩
    have htr : ∀ l, trimP l (List.replicate 0 0) = pzero := fun l => trimP_zero fun j hj => by simp at hj
    have hz6 : u2.heap.size + 1 = wr.heap.size := hsz.symm
    have HTR := Lib.hid htr; clear htr
    have hpl0 : -1 ≤ p.low := by rw [HPLOW.out]; omega
    have hpl1 : p.low ≤ 1 := by rw [HPLOW.out]; omega
    go_wp2_with fail
    refine (trim_calls (p.low - q.low) _ (List.replicate 0 0) _ HC.out.ints (by simp) (by omega) (by omega)).mono ?_
    rw [HTR.out]
    rintro e u7 ⟨vt, rfl, ht7, hb7⟩
    have s7 := ht7.isSl
    have r3 := G3.out.below hb7
    have hz7 := hb7.size
    have HT7 := Lib.hid (ht7.low (show w.heap.size + 3 ≤ wr.heap.size by omega)); have R7 := Lib.hid r3; have B7 := Lib.hid (B6.out.trans (hb7.mono (by omega))); clear ht7 hb7 r3
    go_wp2_with fail
    refine (fit_calls pzero vt (w.heap.size + 3) _ HT7.out (by omega) ⟨by decide, by decide, by decide, by decide, by decide⟩).mono ?_
    rintro e u8 ⟨rfl, hv8, hb8⟩
    have r8 := R7.out.below hb8
    have e0 := r8.cell0; have e1 := r8.cell1; have f0 := r8.free0; have f1 := r8.free1
    have hz8 := hb8.size
    have B8 := Lib.hid (B7.out.trans (hb8.mono (by omega))); have HV8 := Lib.hid hv8; clear hb8 hv8 r8
    go_wp2_with fail
    refine bodyPost_ret (v := .tuple #[.agg #[.int .i64 pzero.low, vt], .int .i64 0]) (by simp [results, Try.results22, go_sem, e0, e1]) rfl ⟨_, rfl, ?_, (B8.out.setCell (by simp; omega) _).setCell (by simp; omega) _⟩
    exact ((HV8.out.setOther (fun k hk e => by have := (HV8.out.lt k hk).1; simp at e; omega) _).setOther (fun k hk e => by have := (HV8.out.lt k hk).1; simp at e; omega) _).low (by omega)

set_option maxHeartbeats 4000000 in
set_option maxRecDepth 100000 in
/-- 0 divided by q. -/
theorem div_nil_m (q p : LP) (s t : Value) (w : World) (hs : Ints w s p.c) (ht : Ints w t q.c) (hp : POk p) (hq : POk q) (he : p.c = []) (h0 : q.c ≠ []) (h1 : nth q.c (q.c.length - 1) = (-1)) :
    Calls Try.prog 22 #[.agg #[.int .i64 p.low, s], .agg #[.int .i64 q.low, t]] w fun e w' => ∃ u, e = .returned (.tuple #[.agg #[.int .i64 pzero.low, u], .int .i64 0]) ∧ OwnI w' w.heap.size u pzero.c ∧ Below w.heap.size w w' := by
  have ss := hs.isSl
  have st := ht.isSl
  have ls := hs.len
  have lt := ht.len
  obtain ⟨n, hn⟩ : ∃ n, q.c.length = n := ⟨_, rfl⟩
  have hn0 : 0 < n := by rw [← hn]; exact List.length_pos_iff.2 h0
  have hn2 : n ≤ 200 := by rw [← hn]; exact hq.len
  have hplen : p.c.length = 0 := by rw [he]; rfl
  rw [hplen] at ls
  rw [hn] at lt h1
  obtain ⟨m, hm⟩ : ∃ m, m = n - 1 := ⟨_, rfl⟩
  rw [← hm] at h1
  have hmn : m < n := by omega
  have hmi : (n : Int) - 1 = (m : Int) := by omega
  have hnz : ((n : Int) == 0) = false := by rw [beq_eq_false_iff_ne]; omega
  have hla := h1
  have hmk : max (-(m : Int)) 0 = 0 := by omega
  have hmk2 : max (0 - (n : Int) + 1) 0 = 0 := by omega
  have hmk3 : max (-(n : Int) + 1) 0 = 0 := by omega
  have hpl : p.low = 0 := hp.tr.zero he
  have hql1 := hq.lo1; have hql2 := hq.lo2
  obtain ⟨W3, hW3⟩ : ∃ W3, W3 = ((w.alloc (.cells #[.int .i64 p.low, s] 24)).alloc (.cells #[.int .i64 q.low, t] 24)).alloc (.cells #[.int .i64 0, .slice none 0 0] 24) := ⟨_, rfl⟩
  obtain ⟨p1, p2, p3, b3, hz3⟩ := three _ _ _ _ _ _ _ _ _ hW3
  have H := lboth_calls p q s t W3 (hs.below b3) (ht.below b3) hp hq
  have HT := Lib.hid (ht.below b3); have HS := Lib.hid (hs.below b3)
  have HH := Lib.hid H; have P1 := Lib.hid p1; have P2 := Lib.hid p2; have P3 := Lib.hid p3; have B3 := Lib.hid b3; have HZ3 := Lib.hid hz3; have HW3 := Lib.hid hW3.symm
  have HN := Lib.hid hn; have HPL := Lib.hid hplen; have HPLOW := Lib.hid hpl; have HLA := Lib.hid hla; have HPC := Lib.hid he
  clear p1 p2 p3 b3 hz3 hW3 hs ht hp hq h0 H hn hm hplen hpl hla he h1
  go_enter Try.func22, Try.ntmps22
  go_wp2_with fail
  rw [HW3.out]
  refine HH.out.mono ?_
  rintro e u1 ⟨rfl, hb1⟩
  have q1 := P1.out.below hb1; have q2 := P2.out.below hb1; have q3 := P3.out.below hb1
  have a0 := q1.cell0; have a1 := q1.cell1; have d0 := q2.cell0; have d1 := q2.cell1
  have c1 := (HT.out.below hb1).cell (k := m) (by rw [HN.out]; exact hmn)
  rw [HLA.out] at c1
  have hz4 : w.heap.size + 3 ≤ u1.heap.size := by have := hb1.size; have := HZ3.out; omega
  have Q1 := Lib.hid q1; have Q2 := Lib.hid q2; have Q3 := Lib.hid q3; have B4 := Lib.hid (Below.chain B3.out hb1)
  have HS4 := Lib.hid (HS.out.below hb1)
  clear hb1 q1 q2 q3
  go_wp2_with fail
  refine (clone_calls s p.c _ HS4.out (by rw [HPL.out]; omega)).mono ?_
  rintro e u2 ⟨vr, rfl, hr, hb2⟩
  have sr := hr.isSl
  have lr := hr.len
  rw [HPL.out] at lr
  have hz5 := hb2.size
  have q1 := Q1.out.below hb2; have q2 := Q2.out.below hb2; have q3 := Q3.out.below hb2
  have a0' := q1.cell0; have d0' := q2.cell0; have d1' := q2.cell1
  have R1 := Lib.hid q1; have R2 := Lib.hid q2; have R3 := Lib.hid q3; have HR := Lib.hid (hr.low hz4); have B5 := Lib.hid (Below.chain B4.out hb2)
  clear q1 q2 q3 hr hb2
  go_wp2_with (at_make; refine wpList_make rfl _ _ rfl _ _ 0 rfl rfl rfl rfl (by omega) ?_; intro vc w1 ho1 hg1 hlo1 hsz; have sc := ho1.isSl; have hb1 := below_grown_none (Below.refl _ _) hg1; have g1 := R1.out.below hb1; have g2 := R2.out.below hb1; have G3 := Lib.hid (R3.out.below hb1); have HR1 := Lib.hid (HR.out.below hb1); have B6 := Lib.hid (Below.chain B5.out hb1); have a2 := g1.cell0; have a3 := g2.cell0; have HC := Lib.hid ho1; clear ho1 hg1 hb1 g1 g2)
  go_loopw [11] (fun iv wr => iv = .int .i64 (-1) ∧ wr = w1) (fun _ _ => 0)
  case atStart => exact ⟨rfl, rfl⟩
  case round =>
    obtain ⟨rfl, hwr⟩ := hrel
    subst hwr
    go_wp2_with fail
    refine (containsFunc_none _ p.c _ _ (enters_any (Go.Proofs.enters_of Try.func63 (by kernel_rfl) rfl)) _ HR1.out.ints (fun y hy => by rw [HPC.out] at hy; cases hy)).mono ?_
    rintro e w' ⟨rfl, rfl⟩
    have htr : ∀ l, trimP l (List.replicate 0 0) = pzero := fun l => trimP_zero fun j hj => by simp at hj
    have hz6 : u2.heap.size + 1 = wr.heap.size := hsz.symm
    have HTR := Lib.hid htr; clear htr
    have hpl0 : -1 ≤ p.low := by rw [HPLOW.out]; omega
    have hpl1 : p.low ≤ 1 := by rw [HPLOW.out]; omega
    go_wp2_with fail
    refine (trim_calls (p.low - q.low) _ (List.replicate 0 0) _ HC.out.ints (by simp) (by omega) (by omega)).mono ?_
    rw [HTR.out]
    rintro e u7 ⟨vt, rfl, ht7, hb7⟩
    have s7 := ht7.isSl
    have r3 := G3.out.below hb7
    have hz7 := hb7.size
    have HT7 := Lib.hid (ht7.low (show w.heap.size + 3 ≤ wr.heap.size by omega)); have R7 := Lib.hid r3; have B7 := Lib.hid (B6.out.trans (hb7.mono (by omega))); clear ht7 hb7 r3
    go_wp2_with fail
    refine (fit_calls pzero vt (w.heap.size + 3) _ HT7.out (by omega) ⟨by decide, by decide, by decide, by decide, by decide⟩).mono ?_
    rintro e u8 ⟨rfl, hv8, hb8⟩
    have r8 := R7.out.below hb8
    have e0 := r8.cell0; have e1 := r8.cell1; have f0 := r8.free0; have f1 := r8.free1
    have hz8 := hb8.size
    have B8 := Lib.hid (B7.out.trans (hb8.mono (by omega))); have HV8 := Lib.hid hv8; clear hb8 hv8 r8
    go_wp2_with fail
    refine bodyPost_ret (v := .tuple #[.agg #[.int .i64 pzero.low, vt], .int .i64 0]) (by simp [results, Try.results22, go_sem, e0, e1]) rfl ⟨_, rfl, ?_, (B8.out.setCell (by simp; omega) _).setCell (by simp; omega) _⟩
    exact ((HV8.out.setOther (fun k hk e => by have := (HV8.out.lt k hk).1; simp at e; omega) _).setOther (fun k hk e => by have := (HV8.out.lt k hk).1; simp at e; omega) _).low (by omega)

/-- What Div returns for the product of x and q, divided by q. -/
def divR (x q : LP) : LP := if q.c = [] then pzero else if nth q.c (q.c.length - 1) = 1 ∨ nth q.c (q.c.length - 1) = -1 then x else pzero
def divE (q : LP) : Int := if q.c = [] then 6 else if nth q.c (q.c.length - 1) = 1 ∨ nth q.c (q.c.length - 1) = -1 then 0 else 3
theorem div_calls (x q : LP) (s t : Value) (w : World) (hs : Ints w s (pmul x q).c) (ht : Ints w t q.c) (hp : POk (pmul x q)) (hq : POk q) (hx : POk x) (hb : n1 x.c * n1 q.c ≤ 1000000000000) (hb2 : n1 q.c ≤ 1000000000) :
    Calls Try.prog 22 #[.agg #[.int .i64 (pmul x q).low, s], .agg #[.int .i64 q.low, t]] w fun e w' => ∃ u, e = .returned (.tuple #[.agg #[.int .i64 (divR x q).low, u], .int .i64 (divE q)]) ∧ OwnI w' w.heap.size u (divR x q).c ∧ Below w.heap.size w w' := by
  by_cases h0 : q.c = []
  · rw [show divR x q = pzero by unfold divR; rw [if_pos h0], show divE q = 6 by unfold divE; rw [if_pos h0]]
    exact (div_zero (pmul x q) q s t w hs ht hp hq h0).mono fun e w' ⟨h1, h2⟩ => ⟨_, h1, ownI_nil _ _, h2⟩
  · by_cases h1 : nth q.c (q.c.length - 1) = 1 ∨ nth q.c (q.c.length - 1) = -1
    · rw [show divR x q = x by unfold divR; rw [if_neg h0, if_pos h1], show divE q = 0 by unfold divE; rw [if_neg h0, if_pos h1]]
      by_cases hx0 : x.c = []
      · have hz : x = pzero := by
          have := hx.tr.zero hx0
          obtain ⟨l, c⟩ := x
          simp only at hx0 this
          rw [hx0, this]; rfl
        have he : (pmul x q).c = [] := by rw [pmul_nil (.inl hx0)]; rfl
        subst hz
        rcases h1 with h1 | h1
        · exact div_nil_p q _ s t w hs ht hp hq he h0 h1
        · exact div_nil_m q _ s t w hs ht hp hq he h0 h1
      · rcases h1 with h1 | h1
        · exact div_exact_p x q _ s t w hs ht hp hq hx rfl h0 hx0 h1 hb hb2
        · exact div_exact_m x q _ s t w hs ht hp hq hx rfl h0 hx0 h1 hb hb2
    · rw [show divR x q = pzero by unfold divR; rw [if_neg h0, if_neg h1], show divE q = 3 by unfold divE; rw [if_neg h0, if_neg h1]]
      exact (div_malformed (pmul x q) q s t w hs ht hp hq h0 (fun h => h1 (.inl h)) (fun h => h1 (.inr h))).mono fun e w' ⟨h1, h2⟩ => ⟨_, h1, ownI_nil _ _, h2⟩

end Go.Proofs.Ytkimbhmijgfhnaa

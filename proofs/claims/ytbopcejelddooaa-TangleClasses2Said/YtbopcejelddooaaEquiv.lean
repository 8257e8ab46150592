/- tangle.Class, Equivalent walked. -/
import Derived.Test.YtbopcejelddooaaClass
namespace Go.Proofs.Ytbopcejelddooaa
open Go.RowKit Go.Sl

theorem classOf_unique {n d m n' d' m' : Int} (hq : qF n d = qF n' d') (hn : n.natAbs = n'.natAbs) (h : ClassOf n d m) (h' : ClassOf n' d' m') : m = m' := by
  rcases h with ⟨h1, h2⟩ | ⟨h1, i, i0, i1, i2, i3⟩
  · rcases h' with ⟨k1, k2⟩ | ⟨k1, _⟩
    · rw [h2, k2]
    · omega
  · rcases h' with ⟨k1, _⟩ | ⟨k1, j, j0, j1, j2, j3⟩
    · omega
    · rw [hn] at i1 i2
      rw [← hq] at j2 j3
      rw [i3, j3, inv_unique i2 j2 (by omega) (by omega) (by omega) (by omega)]

theorem Class_calls (n d : Int) (w : World) (h : FracOk n d) :
    Calls Try.prog 53 #[.agg #[.int .i64 n, .int .i64 d]] w fun e w' => ∃ m, e = .returned (.tuple #[.int .i64 (n.natAbs : Nat), .int .i64 m, .int .i64 0]) ∧ ClassOf n d m ∧ Below w.heap.size w w' := by
  obtain ⟨v1, hv1⟩ : ∃ v1, v1 = w.alloc (.cells #[.int .i64 n, .int .i64 d] 65) := ⟨_, rfl⟩
  have pf : Pair v1 w.heap.size 65 (.int .i64 n) (.int .i64 d) := by rw [hv1]; exact pair_new _ _ _ _
  have HB := Lib.hid (show Below w.heap.size w v1 by rw [hv1]; exact (Below.refl _ _).alloc (Nat.le_refl _) _)
  have HV := Lib.hid hv1.symm; clear hv1
  have H := Lib.hid h; clear h
  go_enter Try.func53, Try.ntmps53
  go_wp2_with fail
  rw [HV.out]
  refine (tcheck_calls n d _ H.out).mono ?_
  rintro e u1 ⟨rfl, hb1⟩
  replace pf := pf.below hb1
  have c0 := pf.cell0; have c1 := pf.cell1
  have HB1 := Lib.hid (Below.chain HB.out hb1); clear hb1
  go_wp2_with fail
  refine (class_calls n d _ H.out).mono ?_
  rintro e u2 ⟨m, rfl, hm, hb2⟩
  have HM := Lib.hid hm; have HB2 := Lib.hid (Below.chain HB1.out hb2); clear hm hb2
  go_wp2_with fail
  go_ret3
  exact ⟨m, rfl, HM.out, HB2.out⟩

def Quad (w : World) (B : Nat) (t : TypeId) (a b c d : Value) : Prop := w.heap[B]? = some (.cells #[a, b, c, d] t (0, 0))
theorem Quad.lt {w : World} {B : Nat} {t : TypeId} {a b c d : Value} (h : Quad w B t a b c d) : B < w.heap.size := (Array.getElem?_eq_some_iff.1 h).1
theorem Quad.below {w w' : World} {B : Nat} {t : TypeId} {a b c d : Value} (h : Quad w B t a b c d) (hb : Below w.heap.size w w') : Quad w' B t a b c d := (hb.block _ h.lt).trans h
theorem Quad.alloc {w : World} {B : Nat} {t : TypeId} {a b c d : Value} (h : Quad w B t a b c d) (o : Obj) : Quad (w.alloc o) B t a b c d := (Below.heap_alloc w o _ h.lt).trans h
theorem Quad.cells {w : World} {B : Nat} {t : TypeId} {a b c d : Value} (h : Quad w B t a b c d) : w.cell? ⟨B, 0, none⟩ = some a ∧ w.cell? ⟨B, 1, none⟩ = some b ∧ w.cell? ⟨B, 2, none⟩ = some c ∧ w.cell? ⟨B, 3, none⟩ = some d := by
  simp [World.cell?, show w.heap[B]? = _ from h]

set_option maxHeartbeats 1000000 in
set_option maxRecDepth 100000 in
theorem equivalent_yes (n d n' d' : Int) (w : World) (h : FracOk n d) (h' : FracOk n' d') (hn : n.natAbs = n'.natAbs) (hm : ∀ m m', ClassOf n d m → ClassOf n' d' m' → m = m') :
    Calls Try.prog 54 #[.agg #[.int .i64 n, .int .i64 d], .agg #[.int .i64 n', .int .i64 d']] w fun e w' => e = .returned (.tuple #[.bool true, .int .i64 0]) ∧ Below w.heap.size w w' := by
  have H := Lib.hid h; have H' := Lib.hid h'; have HN := Lib.hid hn; have HM := Lib.hid hm; clear h h' hn hm
  go_enter Try.func54, Try.ntmps54
  go_wp2_with fail
  obtain ⟨W2, hW2⟩ : ∃ W2, W2 = (w.alloc (.cells #[.int .i64 n, .int .i64 d] 65)).alloc (.cells #[.int .i64 n', .int .i64 d'] 65) := ⟨_, rfl⟩
  obtain ⟨p1, p2, b2, hz2⟩ := two _ _ _ _ _ _ _ hW2
  rw [← hW2]
  obtain ⟨W3, hW3⟩ : ∃ W3, W3 = W2.alloc (.cells #[.int .i64 n, .int .i64 d, .int .i64 n', .int .i64 d'] 65) := ⟨_, rfl⟩
  have q3 : Quad W3 (w.heap.size + 1 + 1) 65 (.int .i64 n) (.int .i64 d) (.int .i64 n') (.int .i64 d') := by
    rw [hW3]
    have := heap_alloc_new W2 (.cells #[.int .i64 n, .int .i64 d, .int .i64 n', .int .i64 d'] 65)
    rw [hz2] at this
    exact this
  have P1 := Lib.hid (show Pair W3 w.heap.size 65 (.int .i64 n) (.int .i64 d) by rw [hW3]; exact p1.alloc _)
  have P2 := Lib.hid (show Pair W3 (w.heap.size + 1) 65 (.int .i64 n') (.int .i64 d') by rw [hW3]; exact p2.alloc _)
  have B3 := Lib.hid (show Below w.heap.size w W3 by rw [hW3]; exact b2.alloc b2.size _)
  have Q3 := Lib.hid q3
  rw [← hW3]
  clear hW2 hW3 p1 p2 b2 hz2 q3
  go_loopw [17] (fun i wr => ∃ k : Nat, k ≤ 2 ∧ i = .int .i64 k ∧ Pair wr w.heap.size 65 (.int .i64 n) (.int .i64 d) ∧ Pair wr (w.heap.size + 1) 65 (.int .i64 n') (.int .i64 d') ∧ Quad wr (w.heap.size + 1 + 1) 65 (.int .i64 n) (.int .i64 d) (.int .i64 n') (.int .i64 d') ∧ Below w.heap.size w wr) (fun i _ => 2 - (intOf i).toNat)
  case atStart => exact ⟨0, by omega, rfl, P1.out, P2.out, Q3.out, B3.out⟩
  case round =>
    obtain ⟨k, hk, rfl, p1, p2, q3, hbr⟩ := hrel
    obtain ⟨d0, d1, d2, d3⟩ := q3.cells
    have e0 := p1.cell0; have e1 := p1.cell1; have e2 := p2.cell0; have e3 := p2.cell1
    have PP1 := Lib.hid p1; have PP2 := Lib.hid p2; have QQ := Lib.hid q3; have HBR := Lib.hid hbr; clear p1 p2 q3 hbr
    rcases (show k = 0 ∨ k = 1 ∨ k = 2 from by omega) with rfl | rfl | rfl
    · go_wp2_with fail
      refine (tcheck_calls n d _ H.out).mono ?_
      rintro e u1 ⟨rfl, hb1⟩
      replace hb1 := below_lits hb1
      go_wp2_with fail
      go_roundw
      case rel => exact ⟨1, by omega, by go_num, PP1.out.below hb1, PP2.out.below hb1, QQ.out.below hb1, Below.chain HBR.out hb1⟩
      case measure => simp [intOf]
    · go_wp2_with fail
      refine (tcheck_calls n' d' _ H'.out).mono ?_
      rintro e u1 ⟨rfl, hb1⟩
      replace hb1 := below_lits hb1
      go_wp2_with fail
      go_roundw
      case rel => exact ⟨2, by omega, by go_num, PP1.out.below hb1, PP2.out.below hb1, QQ.out.below hb1, Below.chain HBR.out hb1⟩
      case measure => simp [intOf]
    · go_wp2_with fail
      refine (class_calls n d _ H.out).mono ?_
      rintro e u1 ⟨m, rfl, hm, hb1⟩
      have r2 := PP2.out.below hb1
      have f2 := r2.cell0; have f3 := r2.cell1
      have HB1 := Lib.hid (Below.chain HBR.out hb1); have HM1 := Lib.hid hm; clear hb1 hm r2
      go_wp2_with fail
      refine (class_calls n' d' _ H'.out).mono ?_
      rintro e u2 ⟨m', rfl, hm', hb2⟩
      have hmm := HM.out m m' HM1.out hm'
      subst hmm
      rw [← HN.out]
      have HB2 := Lib.hid (Below.chain HB1.out hb2); clear hb2 hm'
      go_wp2_with fail
      go_ret2
      exact ⟨by simp, HB2.out⟩

end Go.Proofs.Ytbopcejelddooaa

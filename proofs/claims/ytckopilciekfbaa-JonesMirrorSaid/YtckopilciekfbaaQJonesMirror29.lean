/- laurent.At, Eval, Conjugate, Normal, Normalize walked. -/
import Derived.Test.YtckopilciekfbaaQJonesMirror0
import Derived.Test.YtckopilciekfbaaQJonesMirror1
import Derived.Test.YtckopilciekfbaaQJonesMirror3
import Derived.Test.YtckopilciekfbaaQJonesMirror4
import Derived.Test.YtckopilciekfbaaQJonesMirror5
import Derived.Test.YtckopilciekfbaaQJonesMirror6
import Derived.Test.YtckopilciekfbaaQJonesMirror7
import Derived.Test.YtckopilciekfbaaQJonesMirror8
import Derived.Test.YtckopilciekfbaaQJonesMirror10
import Derived.Test.YtckopilciekfbaaQJonesMirror11
import Derived.Test.YtckopilciekfbaaQJonesMirror12
import Derived.Test.YtckopilciekfbaaQJonesMirror13
import Derived.Test.YtckopilciekfbaaQJonesMirror14
import Derived.Test.YtckopilciekfbaaQJonesMirror18
import Derived.Test.YtckopilciekfbaaQJonesMirror19
import Derived.Deep.RegionWith
namespace Go.Proofs.Ytckopilciekfbaa
open Go.RowKit Go.Sl

set_option maxRecDepth 100000 in
theorem conjugate_calls (p : LP) (s : Value) (w : World) (hs : Ints w s p.c) (hp : POk p) (hr : POk (pconj p)) :
    Calls Try.prog 24 #[.agg #[.int .i64 p.low, s]] w fun e w' => ∃ u, e = .returned (.tuple #[.agg #[.int .i64 (pconj p).low, u], .int .i64 0]) ∧ OwnI w' w.heap.size u (pconj p).c ∧ Below w.heap.size w w' := by
  have ss := hs.isSl
  have hlo1 := hp.lo1; have hlo2 := hp.lo2; have hlen := hp.len
  obtain ⟨R, hR⟩ : ∃ R, R = pconj p := ⟨_, rfl⟩
  rw [← hR] at hr ⊢
  obtain ⟨W2, hW2⟩ : ∃ W2, W2 = (w.alloc (.cells #[.int .i64 p.low, s] 35)).alloc (.cells #[.int .i64 0, .slice none 0 0] 35) := ⟨_, rfl⟩
  obtain ⟨p1, p2, b2, hz2⟩ := two _ _ _ _ _ _ _ hW2
  have c0 := p1.cell0; have c1 := p1.cell1
  have P1 := Lib.hid p1; have P2 := Lib.hid p2; have B2 := Lib.hid b2; have HZ2 := Lib.hid hz2; have HW2 := Lib.hid hW2.symm
  have HS := Lib.hid (hs.below b2); have HP := Lib.hid hp; have HR := Lib.hid hr; have HRE := Lib.hid hR
  clear p1 p2 b2 hz2 hW2 hs hp hr hR
  go_enter Try.func24, Try.ntmps24
  go_wp2_with fail
  rw [HW2.out]
  go_wp2_with fail
  refine (lcheck_calls p s _ HS.out HP.out).mono ?_
  rintro e u1 ⟨rfl, hb⟩
  have q1 := P1.out.below hb; have q2 := P2.out.below hb
  have d0 := q1.cell0; have d1 := q1.cell1
  have HS1 := Lib.hid (HS.out.below hb); have Q1 := Lib.hid q1; have Q2 := Lib.hid q2; have B3 := Lib.hid (Below.chain B2.out hb)
  have z3 := Lib.hid (Nat.le_trans (Nat.le_of_eq HZ2.out.symm) hb.size)
  clear hb q1 q2
  go_wp2_with fail
  refine (clone_calls s p.c _ HS1.out (by omega)).mono ?_
  rintro e u2 ⟨v, rfl, hv, hb⟩
  have sv := hv.isSl
  have lv := hv.len
  have Q3 := Lib.hid (Q1.out.below hb); have Q4 := Lib.hid (Q2.out.below hb); have B4 := Lib.hid (Below.chain B3.out hb)
  have z4 := Lib.hid (Nat.le_trans z3.out hb.size)
  have HV := Lib.hid (hv.low z3.out)
  clear hb hv
  go_wp2_with fail
  refine (reverse_calls v p.c (w.heap.size + 2) _ HV.out (by omega)).mono ?_
  rintro e u3 ⟨⟨y, rfl⟩, hv, hb⟩
  have q3 := Q3.out.under hb (by omega); have q4 := Q4.out.under hb (by omega)
  have e0 := q3.cell0; have e1 := q3.cell1
  have Q5 := Lib.hid q4; have HV2 := Lib.hid hv.ints
  have B5 := Lib.hid (B4.out.trans (hb.mono (by omega)))
  have z5 := Lib.hid (Nat.le_trans z4.out hb.size)
  clear hb hv q3 q4
  go_wp2_with fail
  refine (trim_calls (1 - p.low - (p.c.length : Int)) v p.c.reverse _ HV2.out (by simp; omega) (by omega) (by omega)).mono ?_
  rw [show trimP (1 - p.low - (p.c.length : Int)) p.c.reverse = R by rw [HRE.out]; rfl]
  rintro e u4 ⟨t, rfl, ht, hb⟩
  have st := ht.isSl
  have Q6 := Lib.hid (Q5.out.below hb); have B6 := Lib.hid (Below.chain B5.out hb)
  have HT := Lib.hid (ht.low z5.out); have z6 := Lib.hid (Nat.le_trans z5.out hb.size)
  clear hb ht
  go_wp2_with fail
  refine (fit_calls R t (w.heap.size + 2) _ HT.out z6.out HR.out).mono ?_
  rintro e u5 ⟨rfl, ht, hb⟩
  have q7 := Q6.out.below hb
  have f0 := q7.cell0; have f1 := q7.cell1; have f2 := q7.free0; have f3 := q7.free1
  have B7 := Lib.hid (Below.chain B6.out hb); have HT2 := Lib.hid ht
  clear hb ht q7
  go_wp2_with fail
  refine bodyPost_ret (v := .tuple #[.agg #[.int .i64 R.low, t], .int .i64 0]) (by simp [results, Try.results24, go_sem, f0, f1]) rfl ⟨_, rfl, ?_, (B7.out.setCell (by simp) _).setCell (by simp) _⟩
  exact ((HT2.out.setOther (fun k hk e => by have := (HT2.out.lt k hk).1; simp at e; omega) _).setOther (fun k hk e => by have := (HT2.out.lt k hk).1; simp at e; omega) _).low (by omega)

end Go.Proofs.Ytckopilciekfbaa


/- dehornoy.of, Reduce, Sign walked. -/
import Derived.Test.YtnmklkjlcpgjmaaQDehornoyRelations0
import Derived.Test.YtnmklkjlcpgjmaaQDehornoyRelations1
import Derived.Test.YtnmklkjlcpgjmaaQDehornoyRelations2
import Derived.Test.YtnmklkjlcpgjmaaQDehornoyRelations3
import Derived.Test.YtnmklkjlcpgjmaaQDehornoyRelations4
import Derived.Test.YtnmklkjlcpgjmaaQDehornoyRelations5
import Derived.Test.YtnmklkjlcpgjmaaQDehornoyRelations7
import Derived.Test.YtnmklkjlcpgjmaaQDehornoyRelations8
import Derived.Test.YtnmklkjlcpgjmaaQDehornoyRelations9
import Derived.Test.YtnmklkjlcpgjmaaQDehornoyRelations10
import Derived.Test.YtnmklkjlcpgjmaaQDehornoyRelations11
import Derived.Test.YtnmklkjlcpgjmaaQDehornoyRelations12
import Derived.Test.YtnmklkjlcpgjmaaQDehornoyRelations13
import Derived.Test.YtnmklkjlcpgjmaaQDehornoyRelations14
import Derived.Test.YtnmklkjlcpgjmaaQDehornoyRelations15
import Derived.Test.YtnmklkjlcpgjmaaQDehornoyRelations16
import Derived.Test.YtnmklkjlcpgjmaaQDehornoyRelations17
import Derived.Test.YtnmklkjlcpgjmaaQDehornoyRelations19
import Derived.Test.YtnmklkjlcpgjmaaQDehornoyRelations20
import Derived.Test.YtnmklkjlcpgjmaaQDehornoyRelations21
import Derived.Test.YtnmklkjlcpgjmaaQDehornoyRelations22
import Derived.Deep.RegionLaw
namespace Go.Proofs.Ytnmklkjlcpgjmaa
open Go.RowKit Go.Sl

theorem cmpIdx_calls (a b : Int) (w : World) (ha : -1000 ≤ a ∧ a ≤ 1000) (hb : -1000 ≤ b ∧ b ≤ 1000) :
    Calls Try.prog 39 #[.int .i64 a, .int .i64 b] w fun e w' => e = .returned (.int .i64 ((a.natAbs : Int) - b.natAbs)) ∧ w = w' := by
  have hw : IntKind.i64.wrap ((a.natAbs : Int) - (b.natAbs : Int)) = (a.natAbs : Int) - b.natAbs := IntWalk.i64_in _ ⟨by omega, by omega⟩
  go_enter Try.func39, Try.ntmps39
  go_wp2_with fail
  refine (bindex_calls a _ ha.1 ha.2).mono ?_
  rintro e w' ⟨rfl, rfl⟩
  go_wp2_with fail
  refine (bindex_calls b _ hb.1 hb.2).mono ?_
  rintro e w' ⟨rfl, rfl⟩
  go_wp2_with fail
  go_ret
  exact ⟨rfl, rfl⟩

set_option maxHeartbeats 4000000 in
set_option maxRecDepth 100000 in
theorem minIdx_calls (v : Value) (xs : List Int) (w : World) (hv : Ints w v xs) (h0 : 0 < xs.length) (hb : ∀ x ∈ xs, -1000 ≤ x ∧ x ≤ 1000) :
    Calls Try.prog 38 #[v, .func (.func 39) #[] #[]] w fun e w' => (∃ y ∈ xs, e = .returned (.int .i64 y) ∧ ∀ z ∈ xs, y.natAbs ≤ z.natAbs) ∧ w = w' := by
  have sv := hv.isSl
  have lv := hv.len
  have i63 := sv.i63
  obtain ⟨L, hL⟩ : ∃ L, xs.length = L := ⟨_, rfl⟩
  rw [hL] at lv h0
  rw [lv] at i63
  have c0 := hv.cell (k := 0) (by omega)
  have HV := Lib.hid hv; have HB := Lib.hid hb; have HL := Lib.hid hL
  have hm0 := nth_mem (xs := xs) (k := 0) (by omega)
  obtain ⟨y0, hy0⟩ : ∃ y0, nth xs 0 = y0 := ⟨_, rfl⟩
  rw [hy0] at c0 hm0
  have HM0 := Lib.hid hm0; have HY0 := Lib.hid hy0
  clear hv hb hL hm0 hy0
  have hlt1 : ¬ (L : Int) < 1 := by omega
  go_enter Try.func38, Try.ntmps38
  go_wp2_with fail
  go_loop [5, 6] (fun m i => ∃ (q : Nat) (y : Int), i = .int .i64 q ∧ m = .int .i64 y ∧ 1 ≤ q ∧ q ≤ L ∧ y ∈ xs ∧ ∀ j, j < q → y.natAbs ≤ (nth xs j).natAbs) (fun _ i => L - (intOf i).toNat)
  case atStart => exact ⟨1, y0, rfl, rfl, Nat.le_refl _, by omega, HM0.out, fun j hj => by
    obtain rfl : j = 0 := by omega
    rw [HY0.out]; exact Nat.le_refl _⟩
  case round =>
    obtain ⟨q, y, rfl, rfl, hq1, hq, hym, hmin⟩ := hrel
    by_cases hlt : q < L
    · have hqx : q < xs.length := by rw [HL.out]; exact hlt
      have cx := HV.out.cell hqx
      have hxm := nth_mem hqx
      obtain ⟨x, hx⟩ : ∃ x, nth xs q = x := ⟨_, rfl⟩
      rw [hx] at cx hxm
      have bx := HB.out x hxm
      have bY := HB.out y hym
      have HMIN := Lib.hid hmin; have HX := Lib.hid hx; have HXM := Lib.hid hxm; have HYM := Lib.hid hym
      clear hmin hx hxm hym
      go_wp2_with fail
      refine (cmpIdx_calls x y _ bx bY).mono ?_
      rintro e w' ⟨rfl, rfl⟩
      by_cases hc : (x.natAbs : Int) - y.natAbs < 0
      · go_wp2_with fail
        go_round
        case rel => exact ⟨q + 1, x, by go_num, rfl, by omega, hlt, HXM.out, fun j hj => by
          by_cases e : j = q
          · subst e; rw [HX.out]; exact Nat.le_refl _
          · have := HMIN.out j (by omega); omega⟩
        case measure => (simp [intOf]; try omega)
      · go_wp2_with fail
        go_round
        case rel => exact ⟨q + 1, y, by go_num, rfl, by omega, hlt, HYM.out, fun j hj => by
          by_cases e : j = q
          · subst e; rw [HX.out]; omega
          · exact HMIN.out j (by omega)⟩
        case measure => (simp [intOf]; try omega)
    · obtain rfl : q = L := by omega
      have HMIN := Lib.hid hmin; have HYM := Lib.hid hym
      clear hmin hym
      go_wp2_with fail
      go_ret
      exact ⟨⟨y, HYM.out, rfl, fun z hz => by
        obtain ⟨j, hj, rfl⟩ := List.getElem_of_mem hz
        have := HMIN.out j (by rw [← HL.out]; exact hj)
        rwa [nth_lt hj] at this⟩, rfl⟩

/-- The sign of a braid word. -/
def SgnOf (n : Nat) (xs : List Int) (s : Int) : Prop := ∃ ys, Clean ys ∧ LtW n ys ∧ BE n ys xs ∧ ((ys = [] ∧ s = 0) ∨ ∃ k, 0 < k ∧ (s = 1 ∨ s = -1) ∧ SPos k s ys)
set_option maxHeartbeats 4000000 in
set_option maxRecDepth 100000 in
theorem dof_calls (v : Value) (xs : List Int) (w : World) (hv : Ints w v xs) (hok : RedOK xs) (hl : xs.length ≤ 1000) {n : Nat} (hn : LtW n xs) (hn6 : n ≤ 6) :
    Calls Try.prog 26 #[v] w fun e w' => ∃ s, e = .returned (.int .i64 s) ∧ (s = 0 ∨ s = 1 ∨ s = -1) ∧ SgnOf n xs s ∧ Below w.heap.size w w' := by
  obtain ⟨N, Lm, Wy, hW, hLm, hst⟩ := hok
  have sv := hv.isSl
  have HC := Lib.hid (dreduce_calls v xs w hv hW hLm hst (by omega) hn hn6)
  clear hW hst hv hn
  go_enter Try.func26, Try.ntmps26
  go_wp2_with fail
  refine HC.out.mono ?_
  rintro e w1 ⟨u, ys, rfl, hu, hcl, hyn, he, hb⟩
  have hy5 := hyn
  have su := hu.isSl
  have lu := hu.len
  have i63 := su.i63
  rw [lu] at i63
  by_cases h0 : ys = []
  · subst h0
    have hl0 : vlen u = 0 := by rw [lu]; rfl
    have HB := Lib.hid hb; have HS := Lib.hid (show SgnOf n xs 0 from ⟨[], hcl, hyn, he, .inl ⟨rfl, rfl⟩⟩)
    clear hu hcl hy5 hyn he hb HC lu
    go_wp2_with fail
    go_ret
    exact ⟨_, rfl, .inl rfl, HS.out, HB.out⟩
  · obtain ⟨k, s, hk, hs, hsp⟩ := clean_sign hyn hcl h0
    obtain ⟨L, hL⟩ : ∃ L, ys.length = L := ⟨_, rfl⟩
    have hLp : 0 < L := by rw [← hL]; exact List.length_pos_iff.2 h0
    rw [hL] at lu i63
    have hne : ((L : Int) == 0) = false := by rw [beq_eq_false_iff_ne]; omega
    have hbd : ∀ x ∈ ys, -1000 ≤ x ∧ x ≤ 1000 := fun x hx => by have := (hy5 x hx).2; omega
    have HM := Lib.hid (minIdx_calls u ys w1 hu.ints (by omega) hbd)
    have HSP := Lib.hid hsp; have HB := Lib.hid hb; have HBD := Lib.hid hbd; have HY5 := Lib.hid hy5
    have HS := Lib.hid (show SgnOf n xs s from ⟨ys, hcl, hyn, he, .inr ⟨k, hk, hs, hsp⟩⟩)
    clear hu hcl hyn he hb HC hsp hbd hy5 h0 hL
    go_wp2_with fail
    refine HM.out.mono ?_
    rintro e w' ⟨⟨y, hy, rfl, hmin⟩, rfl⟩
    obtain ⟨hMono, z, hz, hzk⟩ := HSP.out
    have hyk : y.natAbs = k := by
      have h1 := hmin z hz
      have h2 := (hMono y hy).1
      omega
    have hsy := mono_sign ((hMono y hy).2 hyk) hs
    have hb1 := HBD.out y hy
    have hy0 := (HY5.out y hy).1
    have HSY := Lib.hid hsy
    clear hMono hz hzk hyk hsy hy hmin
    go_wp2_with fail
    refine (dsign_calls y _ hy0 hb1.1 hb1.2).mono ?_
    rw [HSY.out]
    rintro e w' ⟨rfl, rfl⟩
    go_wp2_with fail
    go_ret
    exact ⟨_, rfl, .inr hs, HS.out, HB.out⟩
end Go.Proofs.Ytnmklkjlcpgjmaa


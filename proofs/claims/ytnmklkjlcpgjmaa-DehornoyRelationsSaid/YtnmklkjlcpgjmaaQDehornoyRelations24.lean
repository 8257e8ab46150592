/- dehornoy.Reduce, Sign and Compare walked; the fact ordered. -/
import Derived.Test.YtnmklkjlcpgjmaaQDehornoyRelations0
import Derived.Test.YtnmklkjlcpgjmaaQDehornoyRelations1
import Derived.Test.YtnmklkjlcpgjmaaQDehornoyRelations2
import Derived.Test.YtnmklkjlcpgjmaaQDehornoyRelations3
import Derived.Test.YtnmklkjlcpgjmaaQDehornoyRelations4
import Derived.Test.YtnmklkjlcpgjmaaQDehornoyRelations5
import Derived.Test.YtnmklkjlcpgjmaaQDehornoyRelations7
import Derived.Test.YtnmklkjlcpgjmaaQDehornoyRelations8
import Derived.Test.YtnmklkjlcpgjmaaQDehornoyRelations9
import Derived.Test.YtnmklkjlcpgjmaaQDehornoyRelations10
import Derived.Test.YtnmklkjlcpgjmaaQDehornoyRelations11
import Derived.Test.YtnmklkjlcpgjmaaQDehornoyRelations12
import Derived.Test.YtnmklkjlcpgjmaaQDehornoyRelations13
import Derived.Test.YtnmklkjlcpgjmaaQDehornoyRelations14
import Derived.Test.YtnmklkjlcpgjmaaQDehornoyRelations15
import Derived.Test.YtnmklkjlcpgjmaaQDehornoyRelations16
import Derived.Test.YtnmklkjlcpgjmaaQDehornoyRelations17
import Derived.Test.YtnmklkjlcpgjmaaQDehornoyRelations19
import Derived.Test.YtnmklkjlcpgjmaaQDehornoyRelations20
import Derived.Test.YtnmklkjlcpgjmaaQDehornoyRelations21
import Derived.Test.YtnmklkjlcpgjmaaQDehornoyRelations22
import Derived.Test.YtnmklkjlcpgjmaaQDehornoyRelations23
import Derived.Deep.RegionLaw
namespace Go.Proofs.Ytnmklkjlcpgjmaa
open Go.RowKit Go.Sl

theorem bw_lt {n : Nat} {xs : List Int} (h : BWord n xs) : LtW n xs := fun x hx => by
  obtain ⟨h0, h1, h2⟩ := h x hx
  exact ⟨h0, by omega⟩
theorem lt_bw {n : Nat} {xs : List Int} (h : LtW n xs) : BWord n xs := fun x hx => by
  obtain ⟨h0, h1⟩ := h x hx
  exact ⟨h0, by omega, by omega⟩
theorem LtW.mono {n m : Nat} {xs : List Int} (h : LtW n xs) (hm : n ≤ m) : LtW m xs := fun x hx => ⟨(h x hx).1, by have := (h x hx).2; omega⟩

set_option maxHeartbeats 4000000 in
set_option maxRecDepth 100000 in
theorem dSign_calls (n : Nat) (v : Value) (xs : List Int) (w : World) (hv : Ints w v xs) (h1 : 1 ≤ n) (h5 : n ≤ 6) (hx : LtW n xs) (hl : xs.length ≤ 30) (hok : RedOK xs) :
    Calls Try.prog 15 #[.int .i64 n, v] w fun e w' => ∃ s, e = .returned (.tuple #[.int .i64 s, .int .i64 0]) ∧ (s = 0 ∨ s = 1 ∨ s = -1) ∧ SgnOf n xs s ∧ Below w.heap.size w w' := by
  have sv := hv.isSl
  have HB := Lib.hid (fun W (hW : Below w.heap.size w W) => bcheck_calls n v xs W (hv.below hW) (by omega) (by omega) (lt_bw hx) (by omega))
  have HC := Lib.hid (fun W (hW : Below w.heap.size w W) => dof_calls v xs W (hv.below hW) hok (by omega) hx h5)
  clear hv hx
  go_enter Try.func15, Try.ntmps15
  go_wp2_with fail
  refine (HB.out _ (Below.refl _ _)).mono ?_
  rintro e w1 ⟨rfl, hb⟩
  have HB1 := Lib.hid hb
  clear hb
  go_wp2_with fail
  refine (HC.out _ HB1.out).mono ?_
  rintro e w2 ⟨s, rfl, hs, hsg, hb⟩
  have HS := Lib.hid hsg; have HB2 := Lib.hid (Below.chain HB1.out hb)
  clear hsg hb
  go_wp2_with fail
  go_ret2
  exact ⟨s, rfl, hs, HS.out, HB2.out⟩
theorem rows_two {w : World} {u v : Value} {xs ys : List Int} (h : Ints w u xs) (k : Ints w v ys) : RowsV (w.alloc (.cells #[u, v] 22)) (.slice (some ⟨w.heap.size, 0, none⟩) 2 2) [u, v] [xs, ys] := by
  refine ⟨⟨isSl_mk _ _ _ _ (Nat.le_refl _) (by unfold maxLen; omega), by simp, fun j u hu => ?_⟩, rfl, fun i hi => ?_⟩
  · have hj : j < 2 := (List.getElem?_eq_some_iff.1 hu).1
    rw [vat_mk, Nat.zero_add]
    obtain rfl | rfl : j = 0 ∨ j = 1 := by omega
    all_goals (simp at hu; subst hu; simp only [World.cell?]; rw [heap_alloc_new]; simp)
  · simp only [List.length_cons, List.length_nil] at hi
    rcases (show i = 0 ∨ i = 1 by omega) with rfl | rfl
    · exact h.alloc _
    · exact k.alloc _
set_option maxHeartbeats 4000000 in
set_option maxRecDepth 100000 in
theorem dCompare_calls (n : Nat) (a b : Value) (xs ys : List Int) (w : World) (ha : Ints w a xs) (hb : Ints w b ys) (h1 : 1 ≤ n) (h5 : n ≤ 6) (hx : LtW n xs) (hy : LtW n ys) (hlx : xs.length ≤ 30) (hly : ys.length ≤ 30) (hok : RedOK (invL xs ++ ys)) :
    Calls Try.prog 12 #[.int .i64 n, a, b] w fun e w' => ∃ s, e = .returned (.tuple #[.int .i64 (-s), .int .i64 0]) ∧ (s = 0 ∨ s = 1 ∨ s = -1) ∧ SgnOf n (invL xs ++ ys) s ∧ Below w.heap.size w w' := by
  have sa := ha.isSl
  have sb := hb.isSl
  obtain ⟨a1, a2, a3, rfl, -⟩ := sa.cases
  obtain ⟨b1, b2, b3, rfl, -⟩ := sb.cases
  have hr := rows_two ha hb
  obtain ⟨W1, hW1⟩ : ∃ W, W = w.alloc (.cells #[.slice a1 a2 a3, .slice b1 b2 b3] 22) := ⟨_, rfl⟩
  have hbw : Below w.heap.size w W1 := by rw [hW1]; exact (Below.refl _ _).alloc (Nat.le_refl _) _
  rw [← hW1] at hr
  have hW1' := hW1.symm
  have c0 := hr.cell (i := 0) (by simp)
  have c1 := hr.cell (i := 1) (by simp)
  have HR := Lib.hid hr; have HBW := Lib.hid hbw; have HA := Lib.hid ha; have HB := Lib.hid hb; have HX := Lib.hid hx; have HY := Lib.hid hy
  clear hr hbw ha hb hx hy hW1 c0 c1
  go_enter Try.func12, Try.ntmps12
  go_wp2_with fail
  clear hW1'
  go_loopw [15] (fun s wr => ∃ q : Nat, s = .int .i64 q ∧ q ≤ 2 ∧ Below W1.heap.size W1 wr) (fun s _ => 2 - (intOf s).toNat)
  case atStart => exact ⟨0, rfl, by omega, Below.refl _ _⟩
  case round =>
    obtain ⟨q, rfl, hq, hb⟩ := hrel
    have HBB := Lib.hid hb
    clear hb
    by_cases hlt : q < 2
    · have k0 : wr.cell? ⟨w.heap.size, 0, none⟩ = some (.slice a1 a2 a3) := by
        have := (HR.out.below HBB.out).cell (i := 0) (by simp)
        simpa [vat_mk, nthv] using this
      have k1 : wr.cell? ⟨w.heap.size, 1, none⟩ = some (.slice b1 b2 b3) := by
        have := (HR.out.below HBB.out).cell (i := 1) (by simp)
        simpa [vat_mk, nthv] using this
      rcases (show q = 0 ∨ q = 1 by omega) with rfl | rfl
      · have HQ := Lib.hid (bcheck_calls n _ xs wr (HA.out.below (Below.chain HBW.out HBB.out)) (by omega) (by omega) (lt_bw HX.out) (by omega))
        go_wp2_with fail
        refine HQ.out.mono ?_
        rintro e w' ⟨rfl, hb⟩
        have HB2 := Lib.hid (Below.chain HBB.out hb)
        clear hb
        go_wp2_with fail
        go_roundw
        case rel => exact ⟨1, by go_num, by omega, HB2.out⟩
        case measure => (simp [intOf]; try omega)
      · have HQ := Lib.hid (bcheck_calls n _ ys wr (HB.out.below (Below.chain HBW.out HBB.out)) (by omega) (by omega) (lt_bw HY.out) (by omega))
        go_wp2_with fail
        refine HQ.out.mono ?_
        rintro e w' ⟨rfl, hb⟩
        have HB2 := Lib.hid (Below.chain HBB.out hb)
        clear hb
        go_wp2_with fail
        go_roundw
        case rel => exact ⟨2, by go_num, by omega, HB2.out⟩
        case measure => (simp [intOf]; try omega)
    · obtain rfl : q = 2 := by omega
      have LA := HA.out.below (Below.chain HBW.out HBB.out)
      have hbx : ∀ x ∈ xs, -1000 ≤ x ∧ x ≤ 1000 := fun x hx => by have := (HX.out x hx).2; omega
      have HI := Lib.hid (inverted_calls _ xs wr LA hbx (by omega))
      clear LA hbx
      go_wp2_with fail
      refine HI.out.mono ?_
      rintro e w3 ⟨iv, rfl, hi, hb⟩
      have si := hi.isSl
      obtain ⟨i1, i2, i3, rfl, -⟩ := si.cases
      have LB := HB.out.below (Below.chain HBW.out (Below.chain HBB.out hb))
      have hr2 := rows_two hi.ints LB
      have HR2 := Lib.hid hr2
      have hlen : [invL xs, ys].flatten.length ≤ 100000 := by simp [invL]; omega
      have HB3 := Lib.hid (Below.chain HBW.out (Below.chain HBB.out hb)); have HLN := Lib.hid hlen
      clear hi hb LB hr2 hlen
      go_wp2_with fail
      refine (concat_calls _ _ _ _ HR2.out HLN.out).mono ?_
      rintro e w4 ⟨ov, rfl, ho, hb⟩
      have hfl : [invL xs, ys].flatten = invL xs ++ ys := by simp
      rw [hfl] at ho
      have sov := ho.isSl
      have hxy : LtW n (invL xs ++ ys) := LtW.app (by
        intro z hz
        unfold invL at hz
        rw [List.mem_reverse] at hz
        obtain ⟨y, hy, rfl⟩ := List.mem_map.1 hz
        exact lt_neg (HX.out y hy)) HY.out
      have HO := Lib.hid (dof_calls ov _ w4 ho.ints hok (by simp [invL]; omega) hxy h5)
      have HB4 := Lib.hid (Below.chain HB3.out (Below.chain ((Below.refl _ _).alloc (Nat.le_refl _) _) hb))
      clear ho hb hxy
      go_wp2_with fail
      refine HO.out.mono ?_
      rintro e w5 ⟨s, rfl, hs, hsg, hb⟩
      have hwn : IntKind.i64.wrap (-s) = -s := IntWalk.i64_in _ (by rcases hs with rfl | rfl | rfl <;> exact ⟨by omega, by omega⟩)
      have HS := Lib.hid hsg; have HB5 := Lib.hid (Below.chain HB4.out hb)
      clear hsg hb
      go_wp2_with fail
      go_ret2
      exact ⟨s, rfl, hs, HS.out, HB5.out⟩

/-- The sign is one alone. -/
theorem sgn_uniq {n : Nat} {xs ys : List Int} {s t : Int} (h : SgnOf n xs s) (k : SgnOf n ys t) (e : BE n xs ys) : s = t := by
  obtain ⟨u, cu, lu, eu, hu⟩ := h
  obtain ⟨v, cv, lv, ev, hv⟩ := k
  have euv : BE n u v := eu.trans (e.trans ev.symm)
  have key : ∀ {u v : List Int} {s t : Int} {k : Nat}, LtW n u → LtW n v → BE n u v → 0 < k → (s = 1 ∨ s = -1) → SPos k s u → ((v = [] ∧ t = 0) ∨ ∃ k, 0 < k ∧ (t = 1 ∨ t = -1) ∧ SPos k t v) → s ≠ t → (∀ y ∈ v, k ≤ y.natAbs) → False := by
    rintro u v s t k lu lv e hk hs ⟨hm, z, hz, hzk⟩ hv hne hge
    have hinv : Mono k s (invB v) := by
      intro y hy
      unfold invB at hy
      rw [List.mem_reverse] at hy
      obtain ⟨x, hx, rfl⟩ := List.mem_map.1 hy
      rw [Int.natAbs_neg]
      refine ⟨hge x hx, fun ek => ?_⟩
      rcases hv with ⟨rfl, _⟩ | ⟨k', hk', ht, hm', z', hz', hzk'⟩
      · simp at hx
      · have hkk : k' = k := by
          have h1 := (hm' x hx).1
          have h2 := hge z' hz'
          omega
        subst hkk
        have h3 := (hm' x hx).2 ek
        have hts : t = -s := by rcases hs with rfl | rfl <;> rcases ht with rfl | rfl <;> first | rfl | exact absurd rfl hne
        rw [hts] at h3
        rw [Int.mul_neg, ← Int.neg_mul]; exact h3
    refine bey_irr (n := n) (a := []) (b := []) hk hs (fun x hx => by simp at hx) ⟨u ++ invB v, ⟨hm.app hinv, z, by simp [hz], hzk⟩, lu.app (invB_lt lv), ?_⟩ (Sam.refl _)
    rw [List.nil_append]
    exact (e.post _).trans (BE.mulInv lv)
  apply Classical.byContradiction
  intro hne
  have nil : ∀ {k : Nat}, ∀ y ∈ ([] : List Int), k ≤ y.natAbs := fun y hy => by simp at hy
  rcases hu with ⟨rfl, rfl⟩ | ⟨k, hk, hs, hsp⟩
  · rcases hv with ⟨rfl, rfl⟩ | ⟨k', hk', ht, htp⟩
    · exact hne rfl
    · exact key lv lu euv.symm hk' ht htp (.inl ⟨rfl, rfl⟩) (fun h => hne h.symm) nil
  · rcases hv with ⟨rfl, rfl⟩ | ⟨k', hk', ht, htp⟩
    · exact key lu lv euv hk hs hsp (.inl ⟨rfl, rfl⟩) hne nil
    · rcases Nat.le_total k k' with hkk | hkk
      · exact key lu lv euv hk hs hsp (.inr ⟨k', hk', ht, htp⟩) hne fun y hy => by have := (htp.1 y hy).1; omega
      · exact key lv lu euv.symm hk' ht htp (.inr ⟨k, hk, hs, hsp⟩) (fun h => hne h.symm) fun y hy => by have := (hsp.1 y hy).1; omega
end Go.Proofs.Ytnmklkjlcpgjmaa


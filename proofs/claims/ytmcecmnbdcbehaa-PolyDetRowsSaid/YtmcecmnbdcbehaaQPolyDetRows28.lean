/- polymatrix.Check and Det walked; slices.Clone of rows of polynomials. -/
import Derived.Test.YtmcecmnbdcbehaaQPolyDetRows0
import Derived.Test.YtmcecmnbdcbehaaQPolyDetRows1
import Derived.Test.YtmcecmnbdcbehaaQPolyDetRows2
import Derived.Test.YtmcecmnbdcbehaaQPolyDetRows3
import Derived.Test.YtmcecmnbdcbehaaQPolyDetRows4
import Derived.Test.YtmcecmnbdcbehaaQPolyDetRows5
import Derived.Test.YtmcecmnbdcbehaaQPolyDetRows6
import Derived.Test.YtmcecmnbdcbehaaQPolyDetRows7
import Derived.Test.YtmcecmnbdcbehaaQPolyDetRows8
import Derived.Test.YtmcecmnbdcbehaaQPolyDetRows9
import Derived.Test.YtmcecmnbdcbehaaQPolyDetRows10
import Derived.Test.YtmcecmnbdcbehaaQPolyDetRows11
import Derived.Test.YtmcecmnbdcbehaaQPolyDetRows12
import Derived.Test.YtmcecmnbdcbehaaQPolyDetRows13
import Derived.Test.YtmcecmnbdcbehaaQPolyDetRows14
import Derived.Test.YtmcecmnbdcbehaaQPolyDetRows15
import Derived.Test.YtmcecmnbdcbehaaQPolyDetRows16
import Derived.Test.YtmcecmnbdcbehaaQPolyDetRows19
import Derived.Test.YtmcecmnbdcbehaaQPolyDetRows20
import Derived.Test.YtmcecmnbdcbehaaQPolyDetRows21
import Derived.Test.YtmcecmnbdcbehaaQPolyDetRows22
import Derived.Test.YtmcecmnbdcbehaaQPolyDetRows23
import Derived.Test.YtmcecmnbdcbehaaQPolyDetRows24
import Derived.Test.YtmcecmnbdcbehaaQPolyDetRows25
import Derived.Test.YtmcecmnbdcbehaaQPolyDetRows26
import Derived.Test.YtmcecmnbdcbehaaQPolyDetRows27
import Derived.Deep.RegionLaw
import Derived.RangeFuncNested
import Derived.RangeFuncBound
import Derived.RangeFuncCalls
import Derived.RangeFuncLeaves
import Derived.RangeFuncBox
import Derived.Shelf.Abstract
import Derived.Shelf.RegionOpen
import Derived.OwnWalkIn
import Derived.TacticsInMore
import Derived.LoopNIn
import Derived.LoopIn
import Derived.Maps.AppendAt
namespace Go.Proofs.Ytmcecmnbdcbehaa
open Go.RowKit Go.Sl

/-- An element that polymatrix allows. -/
structure PElem (p : LP) : Prop where
  ok : POk p
  len : p.c.length ≤ 20
  lo1 : -20 ≤ p.low
  lo2 : p.low ≤ 20
  co : ∀ x ∈ p.c, -1000 ≤ x ∧ x ≤ 1000

theorem element1_calls (x : Int) (w : World) (h1 : ¬ x < -1000) (h2 : ¬ 1000 < x) :
    Calls Try.prog 135 #[.int .i64 x] w fun e w' => e = .returned (.bool false) ∧ w = w' := by
  have e1 : decide (x < -1000) = false := decide_eq_false h1
  have e2 : decide (1000 < x) = false := decide_eq_false h2
  go_enter Try.func135, Try.ntmps135
  go_wp2
  go_ret
  exact ⟨rfl, rfl⟩

set_option maxRecDepth 100000 in
theorem element_calls (p : LP) (s : Value) (w : World) (hs : Ints w s p.c) (h : PElem p) :
    Calls Try.prog 78 #[.agg #[.int .i64 p.low, s]] w fun e w' => e = .returned (.int .i64 0) ∧ Below w.heap.size w w' := by
  have ss := hs.isSl
  have ls := hs.len
  obtain ⟨W1, hW1⟩ : ∃ W1, W1 = w.alloc (.cells #[.int .i64 p.low, s] 27) := ⟨_, rfl⟩
  have b1 : Below w.heap.size w W1 := by rw [hW1]; exact (Below.refl _ _).alloc (Nat.le_refl _) _
  have p1 : Pair W1 w.heap.size 27 (.int .i64 p.low) s := by rw [hW1]; exact pair_new _ _ _ _
  have HS := Lib.hid (hs.below b1)
  have HC := Lib.hid h.co
  have HOK := Lib.hid h.ok
  have k1 : ¬ p.low < -20 := by have := h.lo1; omega
  have k2 : ¬ p.low > 20 := by have := h.lo2; omega
  have k3 : ¬ (p.c.length : Int) > 20 := by have := h.len; omega
  have hcall : ∀ W : World, Ints W s p.c → Calls Try.prog 122 #[s, .func (.func 135) #[] #[]] W fun e w' => e = .returned (.bool false) ∧ W = w' := fun W hW =>
    containsFunc_none _ p.c _ _ (enters_any (Go.Proofs.enters_of Try.func135 (by kernel_rfl) rfl)) _ hW fun x hx => by
      have := HC.out x hx
      exact element1_calls x W (by omega) (by omega)
  have HCALL := Lib.hid hcall
  have HW1 := Lib.hid hW1.symm; have B1 := Lib.hid b1; have P1 := Lib.hid p1
  have c0 := p1.cell0; have c1 := p1.cell1
  clear hs hW1 b1 p1 hcall h
  go_enter Try.func78, Try.ntmps78
  go_wp2_with fail
  rw [HW1.out]
  refine (lcheck_calls p s _ HS.out HOK.out).mono ?_
  rintro e u1 ⟨rfl, hb⟩
  have q1 := P1.out.below hb
  have HS2 := Lib.hid (HS.out.below hb)
  have B2 := Lib.hid (Below.chain B1.out hb)
  clear c0 c1
  have c0 := q1.cell0; have c1 := q1.cell1
  clear q1 hb
  go_wp2_with fail
  refine (HCALL.out _ HS2.out).mono ?_
  rintro e w' ⟨rfl, rfl⟩
  go_wp2_with fail
  go_ret
  exact ⟨rfl, B2.out⟩

set_option maxRecDepth 100000 in
set_option maxHeartbeats 2000000 in
theorem pmcheck_calls (n : Nat) (v : Value) (vs : List Value) (m : List (List LP)) (w : World) (hm : MRead w v vs m) (hs : SqM n m) (h4 : n ≤ 4) (he : ∀ i j, i < n → j < n → PElem (nthp (nthm m i) j)) :
    Calls Try.prog 22 #[v] w fun e w' => e = .returned (.int .i64 0) ∧ Below w.heap.size w w' := by
  have sv := hm.isSl
  have lv := hm.vlen
  rw [hs.1] at lv
  have k4 : ¬ (n : Int) > 4 := by omega
  have HM := Lib.hid hm; have HS := Lib.hid hs; have HE := Lib.hid he
  clear hm hs he
  go_enter Try.func22, Try.ntmps22
  go_wp2_with fail
  go_loopw [13] (fun i wr => ∃ k : Nat, k ≤ n ∧ i = .int .i64 k ∧ Below w.heap.size w wr) (fun i _ => n - (intOf i).toNat)
  case atStart => exact ⟨0, Nat.zero_le _, rfl, Below.refl _ _⟩
  case round =>
    rename World => Wo
    obtain ⟨i, hi, rfl, hb⟩ := hrel
    by_cases hlt : i < n
    · have hmr := HM.out.below hb
      have c1 := hmr.cell (i := i) (by rw [HS.out.1]; exact hlt)
      obtain ⟨us, hr⟩ := hmr.row i (by rw [HS.out.1]; exact hlt)
      have sr := hr.isSl
      have lr := hr.vlen
      rw [HS.out.2 i hlt] at lr
      have HR := Lib.hid hr; have HB := Lib.hid hb
      clear hmr hr hb
      go_wp2_with fail
      clear c1
      go_loopw [24] (fun j wi => ∃ k : Nat, k ≤ n ∧ j = .int .i64 k ∧ Below Wo.heap.size Wo wi) (fun j _ => n - (intOf j).toNat)
      case atStart => exact ⟨0, Nat.zero_le _, rfl, Below.refl _ _⟩
      case round =>
        obtain ⟨j, hj, rfl, hb⟩ := hrel
        by_cases hlj : j < n
        · have hr := HR.out.below hb
          have hjr : j < (nthm m i).length := by rw [HS.out.2 i hlt]; exact hlj
          have e0 := hr.low hjr; have e1 := hr.c hjr
          have hx := hr.each j hjr
          have sx := hx.isSl
          have HX := Lib.hid hx; have HBI := Lib.hid hb
          have HPE := Lib.hid (HE.out i j hlt hlj)
          clear hr hx hb
          go_wp2_with fail
          refine (element_calls (nthp (nthm m i) j) _ _ (HX.out.alloc _) HPE.out).mono ?_
          rintro e w3 ⟨rfl, hb3⟩
          have HB3 := Lib.hid (Below.chain HBI.out (Below.chain ((Below.refl _ _).alloc (Nat.le_refl _) _) hb3))
          clear hb3 e0 e1
          go_wp2_with fail
          go_roundw
          case rel => exact ⟨j + 1, by omega, by go_num, HB3.out⟩
          case measure => simp [intOf]; omega
        · have HBI := Lib.hid (HB.out.trans (hb.mono HB.out.size))
          clear hb
          go_wp2_with fail
          go_roundw
          case rel => exact ⟨i + 1, by omega, by go_num, HBI.out⟩
          case measure => simp [intOf]; omega
    · have HBI := Lib.hid hb
      clear hb
      go_wp2_with fail
      go_ret
      exact ⟨rfl, HBI.out⟩

set_option maxRecDepth 100000 in
theorem pdet_calls (n : Nat) (v : Value) (vs : List Value) (m : List (List LP)) (w : World) (hm : MRead w v vs m) (hs : SqM n m) (h4 : n ≤ 4) (he : ∀ i j, i < n → j < n → PElem (nthp (nthm m i) j)) (hfit : ExpFit n m) (hok : POk (expandL n m)) :
    Calls Try.prog 20 #[v] w fun e w' => ∃ u, e = .returned (.tuple #[.agg #[.int .i64 (expandL n m).low, u], .int .i64 0]) ∧ OwnI w' w.heap.size u (expandL n m).c ∧ Below w.heap.size w w' := by
  have sv := hm.isSl
  obtain ⟨W1, hW1⟩ : ∃ W1, W1 = w.alloc (.cells #[.int .i64 0, .slice none 0 0] 27) := ⟨_, rfl⟩
  have b1 : Below w.heap.size w W1 := by rw [hW1]; exact (Below.refl _ _).alloc (Nat.le_refl _) _
  have p1 : Pair W1 w.heap.size 27 (.int .i64 0) (.slice none 0 0) := by rw [hW1]; exact pair_new _ _ _ _
  have z1 : w.heap.size < W1.heap.size := by rw [hW1]; simp
  have HC := Lib.hid (fun W (hb : Below w.heap.size w W) => pmcheck_calls n v vs m W (hm.below hb) hs h4 he)
  have HX := Lib.hid (fun W (hb : Below w.heap.size w W) => expand_calls n v vs m W (hm.below hb) hs (by omega) hfit)
  have HW1 := Lib.hid hW1.symm; have B1 := Lib.hid b1; have P1 := Lib.hid p1; have HOK := Lib.hid hok
  clear hW1 b1 p1 hm hs he hfit hok
  obtain ⟨D, hD⟩ : ∃ D, expandL n m = D := ⟨_, rfl⟩
  rw [hD] at HX HOK ⊢
  clear hD
  go_enter Try.func20, Try.ntmps20
  go_wp2_with fail
  rw [HW1.out]
  refine (HC.out _ B1.out).mono ?_
  rintro e u1 ⟨rfl, hb⟩
  have P2 := Lib.hid (P1.out.below hb)
  have B2 := Lib.hid (Below.chain B1.out hb)
  have z2 : w.heap.size < u1.heap.size := Nat.lt_of_lt_of_le z1 hb.size
  clear hb
  go_wp2_with fail
  refine (HX.out _ B2.out).mono ?_
  rintro e u2 ⟨s, rfl, hs, hb⟩
  have P3 := Lib.hid (P2.out.below hb)
  have B3 := Lib.hid (Below.chain B2.out hb)
  have ss := hs.isSl
  have HSS := Lib.hid hs
  have z3 : u1.heap.size ≤ u2.heap.size := hb.size
  clear hb hs
  go_wp2_with fail
  refine (fit_calls D s u1.heap.size _ HSS.out z3 HOK.out).mono ?_
  rintro e u3 ⟨rfl, hs, hb⟩
  have p4 := P3.out.below hb
  have B4 := Lib.hid (Below.chain B3.out hb)
  obtain ⟨s1, s2, s3, rfl, -⟩ := ss.cases
  have e0 := p4.cell0; have e1 := p4.cell1; have f0 := p4.free0; have f1 := p4.free1
  have hne : ∀ k, Go.Sl.row (.slice s1 s2 s3) = some k → w.heap.size ≠ k := fun k hk e => by have := (hs.lt k hk).1; omega
  have HS4 := Lib.hid (hs.low (show w.heap.size ≤ u1.heap.size by omega)); have HNE := Lib.hid hne
  clear hs hb p4 hne
  have hlt := e0
  go_wp2_with fail
  refine bodyPost_ret (v := .tuple #[.agg #[.int .i64 D.low, .slice s1 s2 s3], .int .i64 0]) (by simp [results, Try.results20, go_sem, e0, e1]) rfl ⟨_, rfl, ?_, ?_⟩
  · exact (HS4.out.setOther (fun k hk => HNE.out k hk) _).setOther (fun k hk => HNE.out k hk) _
  · exact (B4.out.setCell (p := ⟨w.heap.size, 0, none⟩) (by simp) _).setCell (p := ⟨w.heap.size, 1, none⟩) (by simp) _

set_option maxRecDepth 100000 in
theorem clonePRows_calls (v : Value) (vs : List Value) (w : World) (hv : Sl w v 1 vs) (hvs : ∀ u ∈ vs, IsSl u) (h0 : 0 < vs.length) (hl : vs.length ≤ 1000) :
    Calls Try.prog 19 #[v] w fun e w' => ∃ u, e = .returned u ∧ Go.Sl.Own w' w.heap.size 28 1 u vs ∧ Below w.heap.size w w' := by
  have sv := hv.isSl
  have lv : vlen v = vs.length := by have := hv.2.1; omega
  have hone : ∀ u ∈ vs, u.oneCell' = true := fun u hu => oneCell'_sl (hvs u hu)
  have hnil : ∀ wx, (binOp .eql 24 v (.slice none 0 0)).run Try.prog wx = .ok (.bool false) wx := by
    intro wx
    obtain ⟨a, n, c, rfl, hn, hc, ha⟩ := sv.cases
    simp only [vlen_mk] at lv
    obtain ⟨b, o, rfl⟩ := ha (by omega)
    rw [Lib.run_eql_slice_nil wx 24 28 _ n c 0 0 Try.underlying24]; rfl
  have hguard : ∀ wx, (eqGuard .eql 24 (.tmp 3) (.const (.slice none 0 0)) v (.slice none 0 0)).run Try.prog wx = .ok () wx := by
    intro wx
    obtain ⟨a, n, c, rfl, hn, hc, ha⟩ := sv.cases
    simp [eqGuard]
  obtain ⟨i, hi, hz0, hz1, hz2⟩ := info_parts info_polys
  have HS := Lib.hid hv
  clear hv hvs
  have hle : vlen v ≤ 1000 := by omega
  have HL := Lib.hid lv; clear lv
  go_enter Try.func19, Try.ntmps19
  have he : Go.Sl.Own (w.alloc (.cells #[] 28)) w.heap.size 28 1 (.slice (some ⟨w.heap.size, 0, none⟩) 0 0) [] := ⟨isSl_mk _ _ _ _ (Nat.le_refl _) (Nat.zero_le _), by simp, fun h => absurd h (by simp)⟩
  have HE := Lib.hid he; clear he
  go_wp2_with (at_builtin; refine wpList_append_sl (v := .slice (some ⟨w.heap.size, 0, none⟩) 0 0) (y := v) rfl _ _ _ rfl w.heap.size 28 i _ 1 24 Try.underlying24 hi hz0 hz1 hz2 rfl (by decide) rfl rfl HE.out (HS.out.alloc _) hone (by simp only [vlen_mk, maxLen]; omega) (by simp only [vlen_mk]; omega) (by simp) ?_; intro o2 z2 ho2 hg2 hr2)
  go_ret
  exact ⟨o2, rfl, by simpa using ho2, ((Below.refl _ _).alloc (Nat.le_refl _) _).grown hg2 (by simp) (fun k hk => by simp [row] at hk)⟩

end Go.Proofs.Ytmcecmnbdcbehaa


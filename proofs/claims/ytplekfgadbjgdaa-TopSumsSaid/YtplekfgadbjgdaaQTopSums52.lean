/- topSums: for every input the statement returns true, and nothing that was there has changed. -/
import Derived.Test.YtplekfgadbjgdaaQTopSums0
import Derived.Test.YtplekfgadbjgdaaQTopSums1
import Derived.Test.YtplekfgadbjgdaaQTopSums2
import Derived.Test.YtplekfgadbjgdaaQTopSums3
import Derived.Test.YtplekfgadbjgdaaQTopSums4
import Derived.Test.YtplekfgadbjgdaaQTopSums5
import Derived.Test.YtplekfgadbjgdaaQTopSums6
import Derived.Test.YtplekfgadbjgdaaQTopSums7
import Derived.Test.YtplekfgadbjgdaaQTopSums8
import Derived.Test.YtplekfgadbjgdaaQTopSums9
import Derived.Test.YtplekfgadbjgdaaQTopSums10
import Derived.Test.YtplekfgadbjgdaaQTopSums11
import Derived.Test.YtplekfgadbjgdaaQTopSums12
import Derived.Test.YtplekfgadbjgdaaQTopSums13
import Derived.Test.YtplekfgadbjgdaaQTopSums14
import Derived.Test.YtplekfgadbjgdaaQTopSums15
import Derived.Test.YtplekfgadbjgdaaQTopSums16
import Derived.Test.YtplekfgadbjgdaaQTopSums17
import Derived.Test.YtplekfgadbjgdaaQTopSums18
import Derived.Test.YtplekfgadbjgdaaQTopSums19
import Derived.Test.YtplekfgadbjgdaaQTopSums20
import Derived.Test.YtplekfgadbjgdaaQTopSums21
import Derived.Test.YtplekfgadbjgdaaQTopSums22
import Derived.Test.YtplekfgadbjgdaaQTopSums23
import Derived.Test.YtplekfgadbjgdaaQTopSums24
import Derived.Test.YtplekfgadbjgdaaQTopSums25
import Derived.Test.YtplekfgadbjgdaaQTopSums26
import Derived.Test.YtplekfgadbjgdaaQTopSums27
import Derived.Test.YtplekfgadbjgdaaQTopSums28
import Derived.Test.YtplekfgadbjgdaaQTopSums29
import Derived.Test.YtplekfgadbjgdaaQTopSums30
import Derived.Test.YtplekfgadbjgdaaQTopSums31
import Derived.Test.YtplekfgadbjgdaaQTopSums32
import Derived.Test.YtplekfgadbjgdaaQTopSums33
import Derived.Test.YtplekfgadbjgdaaQTopSums34
import Derived.Test.YtplekfgadbjgdaaQTopSums35
import Derived.Test.YtplekfgadbjgdaaQTopSums36
import Derived.Test.YtplekfgadbjgdaaQTopSums37
import Derived.Test.YtplekfgadbjgdaaQTopSums38
import Derived.Test.YtplekfgadbjgdaaQTopSums39
import Derived.Test.YtplekfgadbjgdaaQTopSums40
import Derived.Test.YtplekfgadbjgdaaQTopSums41
import Derived.Test.YtplekfgadbjgdaaQTopSums42
import Derived.Test.YtplekfgadbjgdaaQTopSums43
import Derived.Test.YtplekfgadbjgdaaQTopSums44
import Derived.Test.YtplekfgadbjgdaaQTopSums45
import Derived.Test.YtplekfgadbjgdaaQTopSums46
import Derived.Test.YtplekfgadbjgdaaQTopSums47
import Derived.Test.YtplekfgadbjgdaaQTopSums48
import Derived.Test.YtplekfgadbjgdaaQTopSums49
import Derived.Test.YtplekfgadbjgdaaQTopSums50
import Derived.Test.YtplekfgadbjgdaaQTopSums51
import Derived.Shelf.Strings.Builder1
import Derived.Deep.RegionWith
import Derived.RangeFuncNested
import Derived.RangeFuncCalls
import Derived.OrdersIn
import Derived.OrdersHeld
import Derived.Deep.RegionHeld
import Derived.RangeFuncBound
import Derived.RangeFuncLeaves
import Derived.RangeFuncBox
import Derived.Shelf.Abstract
import Derived.Shelf.RegionOpen
import Derived.OwnWalkIn
import Derived.TacticsInMore
import Derived.LoopNIn
import Derived.LoopIn
import Derived.Maps.AppendAt
import Derived.Deep.RegionLaw
namespace Go.Proofs.Ytplekfgadbjgdaa
open Go.RowKit Go.Sl Go.Mp Go.TL

section
variable {w : World} {b c : Nat} {x y : Value} {B : Nat} {v : Value} {xs : List Int}
/-- A polynomial is stored into its box: all else stays. -/
theorem OwnI.pset (h : OwnI w B v xs) (k : Pair w b 40 x y) (u z : Value) : OwnI ((w.setCell ⟨b, 0, none⟩ u).setCell ⟨b, 1, none⟩ z) B v xs := by
  have hne := Own.ne_of_type (Ne.symm poly_ne_int) h k
  exact (h.setOther (fun b hb => hne b hb) _).setOther (fun b hb => hne b hb) _
theorem HBlk.pset {v : Value} {t : TypeId} (h : HBlk w c (.cells #[v] t (0, 0))) {t' : TypeId} (k : Pair w b t' x y) (u z : Value) : HBlk ((w.setCell ⟨b, 0, none⟩ u).setCell ⟨b, 1, none⟩ z) c (.cells #[v] t (0, 0)) := by
  have hne : c ≠ b := fun e => by
    subst e
    have h1 : w.heap[c]? = _ := h
    rw [show w.heap[c]? = _ from k] at h1
    simp at h1
  exact (Below.heap_setCell _ ⟨b, 1, none⟩ z c hne).trans ((Below.heap_setCell _ ⟨b, 0, none⟩ u c hne).trans h)
theorem Pair.pset {t' : TypeId} {x' y' : Value} (h : Pair w c t' x' y') (hne : c ≠ b) (u z : Value) : Pair ((w.setCell ⟨b, 0, none⟩ u).setCell ⟨b, 1, none⟩ z) c t' x' y' :=
  (h.other (Ne.symm hne) 0 u).other (Ne.symm hne) 1 z
theorem below_pset {w0 : World} (h : Below w0.heap.size w0 w) (hb : w0.heap.size ≤ b) (u z : Value) : Below w0.heap.size w0 ((w.setCell ⟨b, 0, none⟩ u).setCell ⟨b, 1, none⟩ z) := (h.setCell (p := ⟨b, 0, none⟩) hb u).setCell (p := ⟨b, 1, none⟩) hb z
theorem HBlk.alloc {o o' : Obj} (h : HBlk w c o) : HBlk (w.alloc o') c o := (Below.heap_alloc w o' c (Array.getElem?_eq_some_iff.1 h).1).trans h
theorem HBlk.lt {o : Obj} (h : HBlk w c o) : c < w.heap.size := (Array.getElem?_eq_some_iff.1 h).1
end
theorem two_sl (w : World) (x y : Value) (t : TypeId) (W : World) (h : W = (w.alloc (.cells #[x] t)).alloc (.cells #[y] t)) : HBlk W w.heap.size (.cells #[x] t (0, 0)) ∧ HBlk W (w.heap.size + 1) (.cells #[y] t (0, 0)) ∧ Below w.heap.size w W := by
  subst h
  refine ⟨HBlk.alloc (heap_alloc_new w _), ?_, ((Below.refl _ _).alloc (Nat.le_refl _) _).alloc (by simp) _⟩
  have := heap_alloc_new (w.alloc (.cells #[x] t)) (.cells #[y] t)
  rwa [World.size_alloc] at this

set_option maxHeartbeats 16000000 in
set_option maxRecDepth 100000 in
theorem topSums_true {w0 : World} (n : Int) (hn : I64 n) (m : Int) (hm : I64 m) (a : Value) (as1 : List Int) (hra : Ints w0 a as1) (hxa : ∀ x ∈ as1, I64 x) (b : Value) (bs1 : List Int) (hrb : Ints w0 b bs1) (hxb : ∀ x ∈ bs1, I64 x) (w : World) (hw : w = w0 := by rfl) :
    Calls Try.prog 4 #[.int .i64 n, .int .i64 m, a, b] w fun e w' => e = .returned (.bool true) ∧ Below w.heap.size w w' := by
  subst hw
  have sa := hra.isSl
  have sb := hrb.isSl
  obtain ⟨p, hp⟩ : ∃ p : Nat, 1 + n % (3 - 1) = (p : Int) := ⟨(1 + n % (3 - 1)).toNat, by omega⟩
  obtain ⟨q, hq⟩ : ∃ q : Nat, 1 + m % (3 - 1) = (q : Int) := ⟨(1 + m % (3 - 1)).toNat, by omega⟩
  have p1 : 1 ≤ p := by omega
  have p2 : p ≤ 2 := by omega
  have q1 : 1 ≤ q := by omega
  have q2 : q ≤ 2 := by omega
  obtain ⟨N, hN⟩ : ∃ N, N = p + 1 := ⟨_, rfl⟩
  obtain ⟨M, hM⟩ : ∃ M, M = q + 1 := ⟨_, rfl⟩
  have hNi : 2 + n % (3 - 1) = (N : Int) := by omega
  have hMi : 2 + m % (3 - 1) = (M : Int) := by omega
  have hN1 : (N : Int) - 1 = (p : Int) := by omega
  have hM1 : (M : Int) - 1 = (q : Int) := by omega
  have hNb : N ≤ 3 := by omega
  have hMb : M ≤ 3 := by omega
  obtain ⟨X, hX⟩ : ∃ X, X = wordL (p : Int) as1 6 := ⟨_, rfl⟩
  obtain ⟨Y, hY⟩ : ∃ Y, Y = wordL (q : Int) bs1 6 := ⟨_, rfl⟩
  have bX : BWord (N : Int) X := by rw [hX, ← hN1]; exact wordL_bw (by omega) as1 6
  have bY : BWord (M : Int) Y := by rw [hY, ← hM1]; exact wordL_bw (by omega) bs1 6
  have lX : X.length ≤ 6 := by rw [hX]; exact wordL_length _ as1 6
  have lY : Y.length ≤ 6 := by rw [hY]; exact wordL_length _ bs1 6
  have nX : NWord (p + 1) X := fun x hx => by have := bX x hx; omega
  have nY : NWord (q + 1) Y := fun x hx => by have := bY x hx; omega
  have yb : ∀ y ∈ Y, y.natAbs ≤ 100 := fun y hy => by have := nY y hy; omega
  have nZ := nword_sum nX nY (d := p) (by omega)
  rw [show q + 1 + p = p + q + 1 by omega] at nZ
  have nD := nword_sum nX nY (d := p + 1) (by omega)
  rw [show q + 1 + (p + 1) = p + 1 + q + 1 by omega] at nD
  have lZ : (X ++ shW p Y).length ≤ 12 := by rw [List.length_append, shW_length]; omega
  have lD : (X ++ shW (p + 1) Y).length ≤ 12 := by rw [List.length_append, shW_length]; omega
  obtain ⟨K, hK⟩ : ∃ K, K = p + q + 1 := ⟨_, rfl⟩
  obtain ⟨J, hJ⟩ : ∃ J, J = p + 1 + q + 1 := ⟨_, rfl⟩
  have hKi : (J : Int) - 1 = (K : Int) := by omega
  have hJi : (N : Int) + (M : Int) = (J : Int) := by omega
  obtain ⟨N1, N2, N3, N4, S1, S2, S3, S4, P1, P2, P3, P4, T1, T2, T3, T4, c3, c4, H⟩ := sumTabs p q p1 p2 q1 q2
  have J1 := Lib.hid (fun W v hv => jones_calls H.h1 (by omega) (by omega) v X W hv nX (by omega))
  have J2 := Lib.hid (fun W v hv => jones_calls H.h2 (by omega) (by omega) v Y W hv nY (by omega))
  have J3 := Lib.hid (fun W v hv => jones_calls H.h3 (by omega) (by omega) v (X ++ shW p Y) W hv nZ lZ)
  have J4 := Lib.hid (fun W v hv => jones_calls H.h4 (by omega) (by omega) v (X ++ shW (p + 1) Y) W hv nD lD)
  have E1 := Lib.hid (fun W v hv => jones_eq H.h1 (by omega) (by omega) v X W hv nX (by omega))
  have E2 := Lib.hid (fun W v hv => jones_eq H.h2 (by omega) (by omega) v Y W hv nY (by omega))
  have F1 := afit nX (by omega) (by omega) (by omega)
  have F2 := afit nY (by omega) (by omega) (by omega)
  have F3 := afit nZ (by omega) (by omega) (by omega)
  have F4 := afit nD (by omega) (by omega) (by omega)
  have A1 := Lib.hid (fun W v hv => alex_calls (p + 1) v X W hv (by omega) (by omega) (bword_of nX) (by omega) F1.pf F1.fit F1.ok)
  have A2 := Lib.hid (fun W v hv => alex_calls (q + 1) v Y W hv (by omega) (by omega) (bword_of nY) (by omega) F2.pf F2.fit F2.ok)
  have A3 := Lib.hid (fun W v hv => alex_calls (p + q + 1) v (X ++ shW p Y) W hv (by omega) (by omega) (bword_of nZ) (by omega) F3.pf F3.fit F3.ok)
  have A4 := Lib.hid (fun W v hv => alex_calls (p + 1 + q + 1) v (X ++ shW (p + 1) Y) W hv (by omega) (by omega) (bword_of nD) (by omega) F4.pf F4.fit F4.ok)
  have OK1 := F1.ok2; have OK2 := F2.ok2; have OK3 := F3.ok2
  simp only [Nat.add_sub_cancel] at A1 A2 A3 A4 OK1 OK2 OK3
  have hR := alex_sum nX nY
  have hD := alex_apart nX nY
  rw [hD] at A4
  rw [hR] at A3 OK3
  obtain ⟨G1, hG1⟩ : ∃ G, pnorm (expandL p (alexM (p + 1) X)) = G := ⟨_, rfl⟩
  obtain ⟨G2, hG2⟩ : ∃ G, pnorm (expandL q (alexM (q + 1) Y)) = G := ⟨_, rfl⟩
  rw [hG1, hG2] at A3 OK3
  rw [hG1] at A1 OK1
  rw [hG2] at A2 OK2
  have HS := Lib.hid (fun R A B (hr : Trimmed R) va vb vr => H.sum (A := A) (B := B) nX nY hr va vb vr)
  have HA := Lib.hid (fun R A B (hr : Trimmed R) va vb vr => H.apart (A := A) (B := B) nX nY hr va vb vr)
  have SH := Lib.hid (fun d B1 B2 xv yv W h1 h2 hx hy (hd : d ≤ 100) => shifted_calls d B1 B2 xv yv X Y W h1 h2 hx hy (by omega) (by omega) hd yb)
  have M1 := Lib.hid (fun s t W hs ht => mul_calls G1 G2 s t W hs ht OK1 OK2 OK3)
  obtain ⟨G3, hG3⟩ : ∃ G, pmul G1 G2 = G := ⟨_, rfl⟩
  rw [hG3] at A3 M1
  have HX := Lib.hid hX.symm; have HY := Lib.hid hY.symm; have HNi := Lib.hid hNi; have HMi := Lib.hid hMi
  have RA := Lib.hid hra; have RB := Lib.hid hrb; have XA := Lib.hid hxa; have XB := Lib.hid hxb
  rw [← hJ] at J4 A4
  rw [← hK] at J3 A3
  rw [← hM] at J2 E2 A2
  rw [← hN] at J1 E1 A1 J4 A4 HA lD
  have HNN := Lib.hid hN; have LX := Lib.hid (show X.length ≤ 12 by omega); have LY := Lib.hid (show Y.length ≤ 12 by omega); have LZ := Lib.hid lZ; have LD := Lib.hid lD
  have HP1 := Lib.hid p1
  clear hp hq hN hM hX hY hNi hMi bX bY lX lY nX nY yb nZ nD lZ lD hK hJ F1 F2 F3 F4 OK1 OK2 OK3 hR hD hG1 hG2 hG3 H hra hrb hxa hxb
  have sp : (0 : Int) < (p : Int) := by omega
  have sq : (0 : Int) < (q : Int) := by omega
  go_enter Try.func4, Try.ntmps4
  go_wp2_with fail
  refine (strands_calls n 3 w hn (by decide) (by decide)).mono ?_
  rw [HNi.out]
  rintro e w' ⟨rfl, rfl⟩
  go_wp2_with fail
  refine (strands_calls m 3 w hm (by decide) (by decide)).mono ?_
  rw [HMi.out]
  rintro e w' ⟨rfl, rfl⟩
  go_wp2_with fail
  refine (word_calls (p : Int) a as1 6 _ RA.out XA.out sp (by omega) (by decide)).mono ?_
  rintro e u1 ⟨xv, rfl, ho, hb⟩
  rw [HX.out] at ho
  have sx := ho.isSl
  replace RB := Lib.hid (RB.out.below hb)
  have IX := Lib.hid ho
  clear ho
  have HB := Lib.hid hb
  clear hb
  go_wp2_with fail
  refine (word_calls (q : Int) b bs1 6 _ RB.out XB.out sq (by omega) (by decide)).mono ?_
  rintro e u2 ⟨yv, rfl, ho, hb⟩
  rw [HY.out] at ho
  have sy := ho.isSl
  have IY := Lib.hid (ho.low HB.out.size)
  clear ho
  replace IX := Lib.hid (IX.out.below hb)
  replace HB := Lib.hid (Below.chain HB.out hb)
  clear hb
  obtain ⟨u3, hW⟩ : ∃ W, W = (u2.alloc (.cells #[xv] 22)).alloc (.cells #[yv] 22) := ⟨_, rfl⟩
  obtain ⟨t1, t2, hb⟩ := two_sl u2 xv yv 22 u3 hW
  have C1 := Lib.hid t1; have C2 := Lib.hid t2
  replace IX := Lib.hid (IX.out.below hb)
  replace IY := Lib.hid (IY.out.below hb)
  replace HB := Lib.hid (Below.chain HB.out hb)
  have hW' := hW.symm
  clear hW hb t1 t2
  have zC1 := cell_of_one C1.out
  have zC2 := cell_of_one C2.out
  go_wp2_with fail
  clear zC1 zC2 hW'
  refine (J1.out _ _ IX.out.ints).mono ?_
  rintro e u4 ⟨A, s1, rfl, ho, tA, wA, nA, vA, hb⟩
  have S1 := Lib.hid (ho.low HB.out.size)
  have ss1 := ho.isSl
  have TA := Lib.hid tA; have VA := Lib.hid vA; have WA := Lib.hid (pok_jones LX.out tA wA nA)
  clear ho tA wA nA vA
  replace IX := Lib.hid (IX.out.below hb)
  replace IY := Lib.hid (IY.out.below hb)
  replace C1 := Lib.hid (C1.out.below hb)
  replace C2 := Lib.hid (C2.out.below hb)
  replace HB := Lib.hid (Below.chain HB.out hb)
  clear hb
  obtain ⟨u5, hW⟩ : ∃ W, W = u4.alloc (.cells #[.int .i64 (A).low, s1] 40) := ⟨_, rfl⟩
  have hb : Below u4.heap.size u4 u5 := by rw [hW]; exact (Below.refl _ _).alloc (Nat.le_refl _) _
  have KA := Lib.hid (show Pair u5 u4.heap.size 40 (.int .i64 (A).low) s1 by rw [hW]; exact pair_new _ _ _ _)
  have gKA := Lib.hid (show w.heap.size ≤ u4.heap.size from HB.out.size)
  replace IX := Lib.hid (IX.out.below hb)
  replace IY := Lib.hid (IY.out.below hb)
  replace S1 := Lib.hid (S1.out.below hb)
  replace C1 := Lib.hid (C1.out.below hb)
  replace C2 := Lib.hid (C2.out.below hb)
  replace HB := Lib.hid (Below.chain HB.out hb)
  have hW' := hW.symm
  clear hW hb
  have zC1 := cell_of_one C1.out
  have zC2 := cell_of_one C2.out
  have zKAcell0 := KA.out.cell0
  have zKAcell1 := KA.out.cell1
  have zKAfree0 := KA.out.free0
  have zKAfree1 := KA.out.free1
  go_wp2_with fail
  clear hW' zC1 zC2 zKAcell0 zKAcell1 zKAfree0 zKAfree1
  refine (J2.out _ _ IY.out.ints).mono ?_
  rintro e u6 ⟨B, s2, rfl, ho, t0, q0, n0, v0, hb⟩
  have S2 := Lib.hid (ho.low HB.out.size)
  have sss2 := ho.isSl
  have TB := Lib.hid t0; have VB := Lib.hid v0; have WB := Lib.hid (pok_jones LY.out t0 q0 n0)
  clear ho t0 q0 n0 v0
  replace IX := Lib.hid (IX.out.below hb)
  replace IY := Lib.hid (IY.out.below hb)
  replace S1 := Lib.hid (S1.out.below hb)
  replace C1 := Lib.hid (C1.out.below hb)
  replace C2 := Lib.hid (C2.out.below hb)
  replace KA := Lib.hid (KA.out.below hb)
  replace HB := Lib.hid (Below.chain HB.out hb)
  clear hb
  obtain ⟨u7, hW⟩ : ∃ W, W = u6.alloc (.cells #[.int .i64 (B).low, s2] 40) := ⟨_, rfl⟩
  have hb : Below u6.heap.size u6 u7 := by rw [hW]; exact (Below.refl _ _).alloc (Nat.le_refl _) _
  have nKAKB := Lib.hid (Nat.ne_of_lt KA.out.lt)
  have KB := Lib.hid (show Pair u7 u6.heap.size 40 (.int .i64 (B).low) s2 by rw [hW]; exact pair_new _ _ _ _)
  have gKB := Lib.hid (show w.heap.size ≤ u6.heap.size from HB.out.size)
  replace IX := Lib.hid (IX.out.below hb)
  replace IY := Lib.hid (IY.out.below hb)
  replace S1 := Lib.hid (S1.out.below hb)
  replace S2 := Lib.hid (S2.out.below hb)
  replace C1 := Lib.hid (C1.out.below hb)
  replace C2 := Lib.hid (C2.out.below hb)
  replace KA := Lib.hid (KA.out.below hb)
  replace HB := Lib.hid (Below.chain HB.out hb)
  have hW' := hW.symm
  clear hW hb
  have zC1 := cell_of_one C1.out
  have zC2 := cell_of_one C2.out
  have zKAcell0 := KA.out.cell0
  have zKAcell1 := KA.out.cell1
  have zKAfree0 := KA.out.free0
  have zKAfree1 := KA.out.free1
  have zKBcell0 := KB.out.cell0
  have zKBcell1 := KB.out.cell1
  have zKBfree0 := KB.out.free0
  have zKBfree1 := KB.out.free1
  go_wp2_with fail
  clear hW' zC1 zC2 zKAcell0 zKAcell1 zKAfree0 zKAfree1 zKBcell0 zKBcell1 zKBfree0 zKBfree1
  refine (SH.out p _ _ xv yv _ C1.out C2.out IX.out.ints IY.out.ints (by omega)).mono ?_
  rintro e u8 ⟨zv, rfl, ho, hb⟩
  have sz := ho.isSl
  have IZ := Lib.hid ho.ints
  clear ho
  replace IX := Lib.hid (IX.out.below hb)
  replace IY := Lib.hid (IY.out.below hb)
  replace S1 := Lib.hid (S1.out.below hb)
  replace S2 := Lib.hid (S2.out.below hb)
  replace C1 := Lib.hid (C1.out.below hb)
  replace C2 := Lib.hid (C2.out.below hb)
  replace KA := Lib.hid (KA.out.below hb)
  replace KB := Lib.hid (KB.out.below hb)
  replace HB := Lib.hid (Below.chain HB.out hb)
  clear hb
  go_wp2_with fail
  refine (J3.out _ _ IZ.out).mono ?_
  rintro e u9 ⟨R, s3, rfl, ho, t0, q0, n0, v0, hb⟩
  clear IZ
  have S3 := Lib.hid (ho.low HB.out.size)
  have sss3 := ho.isSl
  have TR := Lib.hid t0; have VR := Lib.hid v0; have WR := Lib.hid (pok_jones LZ.out t0 q0 n0)
  clear ho t0 q0 n0 v0
  replace IX := Lib.hid (IX.out.below hb)
  replace IY := Lib.hid (IY.out.below hb)
  replace S1 := Lib.hid (S1.out.below hb)
  replace S2 := Lib.hid (S2.out.below hb)
  replace C1 := Lib.hid (C1.out.below hb)
  replace C2 := Lib.hid (C2.out.below hb)
  replace KA := Lib.hid (KA.out.below hb)
  replace KB := Lib.hid (KB.out.below hb)
  replace HB := Lib.hid (Below.chain HB.out hb)
  clear hb
  have HR := Lib.hid (HS.out R A B TR.out VA.out VB.out VR.out)
  have MU := Lib.hid (fun s t W hs ht => mul_calls A B s t W hs ht WA.out WB.out (by rw [← HR.out]; exact WR.out))
  rw [← HR.out] at MU
  obtain ⟨u10, hW⟩ : ∃ W, W = u9.alloc (.cells #[.int .i64 (R).low, s3] 40) := ⟨_, rfl⟩
  have hb : Below u9.heap.size u9 u10 := by rw [hW]; exact (Below.refl _ _).alloc (Nat.le_refl _) _
  have nKAKR := Lib.hid (Nat.ne_of_lt KA.out.lt)
  have nKBKR := Lib.hid (Nat.ne_of_lt KB.out.lt)
  have KR := Lib.hid (show Pair u10 u9.heap.size 40 (.int .i64 (R).low) s3 by rw [hW]; exact pair_new _ _ _ _)
  have gKR := Lib.hid (show w.heap.size ≤ u9.heap.size from HB.out.size)
  replace IX := Lib.hid (IX.out.below hb)
  replace IY := Lib.hid (IY.out.below hb)
  replace S1 := Lib.hid (S1.out.below hb)
  replace S2 := Lib.hid (S2.out.below hb)
  replace S3 := Lib.hid (S3.out.below hb)
  replace C1 := Lib.hid (C1.out.below hb)
  replace C2 := Lib.hid (C2.out.below hb)
  replace KA := Lib.hid (KA.out.below hb)
  replace KB := Lib.hid (KB.out.below hb)
  replace HB := Lib.hid (Below.chain HB.out hb)
  have hW' := hW.symm
  clear hW hb
  have zC1 := cell_of_one C1.out
  have zC2 := cell_of_one C2.out
  have zKAcell0 := KA.out.cell0
  have zKAcell1 := KA.out.cell1
  have zKAfree0 := KA.out.free0
  have zKAfree1 := KA.out.free1
  have zKBcell0 := KB.out.cell0
  have zKBcell1 := KB.out.cell1
  have zKBfree0 := KB.out.free0
  have zKBfree1 := KB.out.free1
  have zKRcell0 := KR.out.cell0
  have zKRcell1 := KR.out.cell1
  have zKRfree0 := KR.out.free0
  have zKRfree1 := KR.out.free1
  go_wp2_with fail
  clear hW' zC1 zC2 zKAcell0 zKAcell1 zKAfree0 zKAfree1 zKBcell0 zKBcell1 zKBfree0 zKBfree1 zKRcell0 zKRcell1 zKRfree0 zKRfree1
  refine (MU.out s1 s2 _ S1.out.ints S2.out.ints).mono ?_
  rintro e u11 ⟨s4, rfl, ho, hb⟩
  have S4 := Lib.hid (ho.low HB.out.size)
  have sss4 := ho.isSl
  clear ho
  replace IX := Lib.hid (IX.out.below hb)
  replace IY := Lib.hid (IY.out.below hb)
  replace S1 := Lib.hid (S1.out.below hb)
  replace S2 := Lib.hid (S2.out.below hb)
  replace S3 := Lib.hid (S3.out.below hb)
  replace C1 := Lib.hid (C1.out.below hb)
  replace C2 := Lib.hid (C2.out.below hb)
  replace KA := Lib.hid (KA.out.below hb)
  replace KB := Lib.hid (KB.out.below hb)
  replace KR := Lib.hid (KR.out.below hb)
  replace HB := Lib.hid (Below.chain HB.out hb)
  clear hb
  obtain ⟨u12, hW⟩ : ∃ W, W = u11.alloc (.cells #[.int .i64 (R).low, s4] 40) := ⟨_, rfl⟩
  have hb : Below u11.heap.size u11 u12 := by rw [hW]; exact (Below.refl _ _).alloc (Nat.le_refl _) _
  have nKAKM := Lib.hid (Nat.ne_of_lt KA.out.lt)
  have nKBKM := Lib.hid (Nat.ne_of_lt KB.out.lt)
  have nKRKM := Lib.hid (Nat.ne_of_lt KR.out.lt)
  have KM := Lib.hid (show Pair u12 u11.heap.size 40 (.int .i64 (R).low) s4 by rw [hW]; exact pair_new _ _ _ _)
  have gKM := Lib.hid (show w.heap.size ≤ u11.heap.size from HB.out.size)
  replace IX := Lib.hid (IX.out.below hb)
  replace IY := Lib.hid (IY.out.below hb)
  replace S1 := Lib.hid (S1.out.below hb)
  replace S2 := Lib.hid (S2.out.below hb)
  replace S3 := Lib.hid (S3.out.below hb)
  replace S4 := Lib.hid (S4.out.below hb)
  replace C1 := Lib.hid (C1.out.below hb)
  replace C2 := Lib.hid (C2.out.below hb)
  replace KA := Lib.hid (KA.out.below hb)
  replace KB := Lib.hid (KB.out.below hb)
  replace KR := Lib.hid (KR.out.below hb)
  replace HB := Lib.hid (Below.chain HB.out hb)
  have hW' := hW.symm
  clear hW hb
  have zC1 := cell_of_one C1.out
  have zC2 := cell_of_one C2.out
  have zKAcell0 := KA.out.cell0
  have zKAcell1 := KA.out.cell1
  have zKAfree0 := KA.out.free0
  have zKAfree1 := KA.out.free1
  have zKBcell0 := KB.out.cell0
  have zKBcell1 := KB.out.cell1
  have zKBfree0 := KB.out.free0
  have zKBfree1 := KB.out.free1
  have zKRcell0 := KR.out.cell0
  have zKRcell1 := KR.out.cell1
  have zKRfree0 := KR.out.free0
  have zKRfree1 := KR.out.free1
  have zKMcell0 := KM.out.cell0
  have zKMcell1 := KM.out.cell1
  have zKMfree0 := KM.out.free0
  have zKMfree1 := KM.out.free1
  go_wp2_with fail
  clear hW' zC1 zC2 zKAcell0 zKAcell1 zKAfree0 zKAfree1 zKBcell0 zKBcell1 zKBfree0 zKBfree1 zKRcell0 zKRcell1 zKRfree0 zKRfree1 zKMcell0 zKMcell1 zKMfree0 zKMfree1
  refine (trefoil_calls _).mono ?_
  rintro e u13 ⟨rfl, hb⟩
  replace IX := Lib.hid (IX.out.below hb)
  replace IY := Lib.hid (IY.out.below hb)
  replace S1 := Lib.hid (S1.out.below hb)
  replace S2 := Lib.hid (S2.out.below hb)
  replace S3 := Lib.hid (S3.out.below hb)
  replace S4 := Lib.hid (S4.out.below hb)
  replace C1 := Lib.hid (C1.out.below hb)
  replace C2 := Lib.hid (C2.out.below hb)
  replace KA := Lib.hid (KA.out.below hb)
  replace KB := Lib.hid (KB.out.below hb)
  replace KR := Lib.hid (KR.out.below hb)
  replace KM := Lib.hid (KM.out.below hb)
  replace HB := Lib.hid (Below.chain HB.out hb)
  clear hb
  have zC1 := cell_of_one C1.out
  have zC2 := cell_of_one C2.out
  have zKAcell0 := KA.out.cell0
  have zKAcell1 := KA.out.cell1
  have zKAfree0 := KA.out.free0
  have zKAfree1 := KA.out.free1
  have zKBcell0 := KB.out.cell0
  have zKBcell1 := KB.out.cell1
  have zKBfree0 := KB.out.free0
  have zKBfree1 := KB.out.free1
  have zKRcell0 := KR.out.cell0
  have zKRcell1 := KR.out.cell1
  have zKRfree0 := KR.out.free0
  have zKRfree1 := KR.out.free1
  have zKMcell0 := KM.out.cell0
  have zKMcell1 := KM.out.cell1
  have zKMfree0 := KM.out.free0
  have zKMfree1 := KM.out.free1
  go_wp2_with fail
  clear zC1 zC2 zKAcell0 zKAcell1 zKAfree0 zKAfree1 zKBcell0 zKBcell1 zKBfree0 zKBfree1 zKRcell0 zKRcell1 zKRfree0 zKRfree1 zKMcell0 zKMcell1 zKMfree0 zKMfree1
  refine (topsame_yes R R s3 s4 _ S3.out.ints S4.out.ints rfl).mono ?_
  rintro e u14 ⟨rfl, hb⟩
  clear S3 S4
  replace IX := Lib.hid (IX.out.below hb)
  replace IY := Lib.hid (IY.out.below hb)
  replace S1 := Lib.hid (S1.out.below hb)
  replace S2 := Lib.hid (S2.out.below hb)
  replace C1 := Lib.hid (C1.out.below hb)
  replace C2 := Lib.hid (C2.out.below hb)
  replace KA := Lib.hid (KA.out.below hb)
  replace KB := Lib.hid (KB.out.below hb)
  replace KR := Lib.hid (KR.out.below hb)
  replace KM := Lib.hid (KM.out.below hb)
  replace HB := Lib.hid (Below.chain HB.out hb)
  clear hb
  have zC1 := cell_of_one C1.out
  have zC2 := cell_of_one C2.out
  have zKAcell0 := KA.out.cell0
  have zKAcell1 := KA.out.cell1
  have zKAfree0 := KA.out.free0
  have zKAfree1 := KA.out.free1
  have zKBcell0 := KB.out.cell0
  have zKBcell1 := KB.out.cell1
  have zKBfree0 := KB.out.free0
  have zKBfree1 := KB.out.free1
  have zKRcell0 := KR.out.cell0
  have zKRcell1 := KR.out.cell1
  have zKRfree0 := KR.out.free0
  have zKRfree1 := KR.out.free1
  have zKMcell0 := KM.out.cell0
  have zKMcell1 := KM.out.cell1
  have zKMfree0 := KM.out.free0
  have zKMfree1 := KM.out.free1
  go_wp2_with fail
  clear zC1 zC2 zKAcell0 zKAcell1 zKAfree0 zKAfree1 zKBcell0 zKBcell1 zKBfree0 zKBfree1 zKRcell0 zKRcell1 zKRfree0 zKRfree1 zKMcell0 zKMcell1 zKMfree0 zKMfree1
  refine (A1.out _ _ IX.out.ints).mono ?_
  rintro e u15 ⟨s5, rfl, ho, hb⟩
  have S5 := Lib.hid (ho.low HB.out.size)
  have sss5 := ho.isSl
  clear ho
  replace IX := Lib.hid (IX.out.below hb)
  replace IY := Lib.hid (IY.out.below hb)
  replace S1 := Lib.hid (S1.out.below hb)
  replace S2 := Lib.hid (S2.out.below hb)
  replace C1 := Lib.hid (C1.out.below hb)
  replace C2 := Lib.hid (C2.out.below hb)
  replace KA := Lib.hid (KA.out.below hb)
  replace KB := Lib.hid (KB.out.below hb)
  replace KR := Lib.hid (KR.out.below hb)
  replace KM := Lib.hid (KM.out.below hb)
  replace HB := Lib.hid (Below.chain HB.out hb)
  clear hb
  obtain ⟨u16, hW⟩ : ∃ W, W = (u15.setCell ⟨u4.heap.size, 0, none⟩ (.int .i64 (G1).low)).setCell ⟨u4.heap.size, 1, none⟩ s5 := ⟨_, rfl⟩
  have ocell0 := KA.out.cell0
  have ocell1 := KA.out.cell1
  have ofree0 := KA.out.free0
  have ofree1 := KA.out.free1
  replace IX := Lib.hid (IX.out.pset KA.out (.int .i64 (G1).low) s5)
  replace IY := Lib.hid (IY.out.pset KA.out (.int .i64 (G1).low) s5)
  replace S1 := Lib.hid (S1.out.pset KA.out (.int .i64 (G1).low) s5)
  replace S2 := Lib.hid (S2.out.pset KA.out (.int .i64 (G1).low) s5)
  replace S5 := Lib.hid (S5.out.pset KA.out (.int .i64 (G1).low) s5)
  replace C1 := Lib.hid (C1.out.pset KA.out (.int .i64 (G1).low) s5)
  replace C2 := Lib.hid (C2.out.pset KA.out (.int .i64 (G1).low) s5)
  replace KB := Lib.hid (KB.out.pset (nKAKB.out).symm (.int .i64 (G1).low) s5)
  replace KR := Lib.hid (KR.out.pset (nKAKR.out).symm (.int .i64 (G1).low) s5)
  replace KM := Lib.hid (KM.out.pset (nKAKM.out).symm (.int .i64 (G1).low) s5)
  replace HB := Lib.hid (below_pset HB.out gKA.out (.int .i64 (G1).low) s5)
  replace KA := Lib.hid (KA.out.set (.int .i64 (G1).low) s5)
  rw [← hW] at IX IY S1 S2 S5 C1 C2 KA KB KR KM HB
  have hW' := hW.symm
  clear hW
  have zC1 := cell_of_one C1.out
  have zC2 := cell_of_one C2.out
  have zKAcell0 := KA.out.cell0
  have zKAcell1 := KA.out.cell1
  have zKAfree0 := KA.out.free0
  have zKAfree1 := KA.out.free1
  have zKBcell0 := KB.out.cell0
  have zKBcell1 := KB.out.cell1
  have zKBfree0 := KB.out.free0
  have zKBfree1 := KB.out.free1
  have zKRcell0 := KR.out.cell0
  have zKRcell1 := KR.out.cell1
  have zKRfree0 := KR.out.free0
  have zKRfree1 := KR.out.free1
  have zKMcell0 := KM.out.cell0
  have zKMcell1 := KM.out.cell1
  have zKMfree0 := KM.out.free0
  have zKMfree1 := KM.out.free1
  go_wp2_with fail
  clear hW' ocell0 ocell1 ofree0 ofree1 zC1 zC2 zKAcell0 zKAcell1 zKAfree0 zKAfree1 zKBcell0 zKBcell1 zKBfree0 zKBfree1 zKRcell0 zKRcell1 zKRfree0 zKRfree1 zKMcell0 zKMcell1 zKMfree0 zKMfree1
  refine (A2.out _ _ IY.out.ints).mono ?_
  rintro e u17 ⟨s6, rfl, ho, hb⟩
  have S6 := Lib.hid (ho.low HB.out.size)
  have sss6 := ho.isSl
  clear ho
  replace IX := Lib.hid (IX.out.below hb)
  replace IY := Lib.hid (IY.out.below hb)
  replace S1 := Lib.hid (S1.out.below hb)
  replace S2 := Lib.hid (S2.out.below hb)
  replace S5 := Lib.hid (S5.out.below hb)
  replace C1 := Lib.hid (C1.out.below hb)
  replace C2 := Lib.hid (C2.out.below hb)
  replace KA := Lib.hid (KA.out.below hb)
  replace KB := Lib.hid (KB.out.below hb)
  replace KR := Lib.hid (KR.out.below hb)
  replace KM := Lib.hid (KM.out.below hb)
  replace HB := Lib.hid (Below.chain HB.out hb)
  clear hb
  obtain ⟨u18, hW⟩ : ∃ W, W = (u17.setCell ⟨u6.heap.size, 0, none⟩ (.int .i64 (G2).low)).setCell ⟨u6.heap.size, 1, none⟩ s6 := ⟨_, rfl⟩
  have ocell0 := KB.out.cell0
  have ocell1 := KB.out.cell1
  have ofree0 := KB.out.free0
  have ofree1 := KB.out.free1
  replace IX := Lib.hid (IX.out.pset KB.out (.int .i64 (G2).low) s6)
  replace IY := Lib.hid (IY.out.pset KB.out (.int .i64 (G2).low) s6)
  replace S1 := Lib.hid (S1.out.pset KB.out (.int .i64 (G2).low) s6)
  replace S2 := Lib.hid (S2.out.pset KB.out (.int .i64 (G2).low) s6)
  replace S5 := Lib.hid (S5.out.pset KB.out (.int .i64 (G2).low) s6)
  replace S6 := Lib.hid (S6.out.pset KB.out (.int .i64 (G2).low) s6)
  replace C1 := Lib.hid (C1.out.pset KB.out (.int .i64 (G2).low) s6)
  replace C2 := Lib.hid (C2.out.pset KB.out (.int .i64 (G2).low) s6)
  replace KA := Lib.hid (KA.out.pset nKAKB.out (.int .i64 (G2).low) s6)
  replace KR := Lib.hid (KR.out.pset (nKBKR.out).symm (.int .i64 (G2).low) s6)
  replace KM := Lib.hid (KM.out.pset (nKBKM.out).symm (.int .i64 (G2).low) s6)
  replace HB := Lib.hid (below_pset HB.out gKB.out (.int .i64 (G2).low) s6)
  replace KB := Lib.hid (KB.out.set (.int .i64 (G2).low) s6)
  rw [← hW] at IX IY S1 S2 S5 S6 C1 C2 KA KB KR KM HB
  have hW' := hW.symm
  clear hW
  have zC1 := cell_of_one C1.out
  have zC2 := cell_of_one C2.out
  have zKAcell0 := KA.out.cell0
  have zKAcell1 := KA.out.cell1
  have zKAfree0 := KA.out.free0
  have zKAfree1 := KA.out.free1
  have zKBcell0 := KB.out.cell0
  have zKBcell1 := KB.out.cell1
  have zKBfree0 := KB.out.free0
  have zKBfree1 := KB.out.free1
  have zKRcell0 := KR.out.cell0
  have zKRcell1 := KR.out.cell1
  have zKRfree0 := KR.out.free0
  have zKRfree1 := KR.out.free1
  have zKMcell0 := KM.out.cell0
  have zKMcell1 := KM.out.cell1
  have zKMfree0 := KM.out.free0
  have zKMfree1 := KM.out.free1
  go_wp2_with fail
  clear hW' ocell0 ocell1 ofree0 ofree1 zC1 zC2 zKAcell0 zKAcell1 zKAfree0 zKAfree1 zKBcell0 zKBcell1 zKBfree0 zKBfree1 zKRcell0 zKRcell1 zKRfree0 zKRfree1 zKMcell0 zKMcell1 zKMfree0 zKMfree1
  refine (SH.out p _ _ xv yv _ C1.out C2.out IX.out.ints IY.out.ints (by omega)).mono ?_
  rintro e u19 ⟨zv, rfl, ho, hb⟩
  have sz := ho.isSl
  have IZ := Lib.hid ho.ints
  clear ho
  replace IX := Lib.hid (IX.out.below hb)
  replace IY := Lib.hid (IY.out.below hb)
  replace S1 := Lib.hid (S1.out.below hb)
  replace S2 := Lib.hid (S2.out.below hb)
  replace S5 := Lib.hid (S5.out.below hb)
  replace S6 := Lib.hid (S6.out.below hb)
  replace C1 := Lib.hid (C1.out.below hb)
  replace C2 := Lib.hid (C2.out.below hb)
  replace KA := Lib.hid (KA.out.below hb)
  replace KB := Lib.hid (KB.out.below hb)
  replace KR := Lib.hid (KR.out.below hb)
  replace KM := Lib.hid (KM.out.below hb)
  replace HB := Lib.hid (Below.chain HB.out hb)
  clear hb
  go_wp2_with fail
  refine (A3.out _ _ IZ.out).mono ?_
  rintro e u20 ⟨s7, rfl, ho, hb⟩
  clear IZ
  have S7 := Lib.hid (ho.low HB.out.size)
  have sss7 := ho.isSl
  clear ho
  replace IX := Lib.hid (IX.out.below hb)
  replace IY := Lib.hid (IY.out.below hb)
  replace S1 := Lib.hid (S1.out.below hb)
  replace S2 := Lib.hid (S2.out.below hb)
  replace S5 := Lib.hid (S5.out.below hb)
  replace S6 := Lib.hid (S6.out.below hb)
  replace C1 := Lib.hid (C1.out.below hb)
  replace C2 := Lib.hid (C2.out.below hb)
  replace KA := Lib.hid (KA.out.below hb)
  replace KB := Lib.hid (KB.out.below hb)
  replace KR := Lib.hid (KR.out.below hb)
  replace KM := Lib.hid (KM.out.below hb)
  replace HB := Lib.hid (Below.chain HB.out hb)
  clear hb
  obtain ⟨u21, hW⟩ : ∃ W, W = (u20.setCell ⟨u9.heap.size, 0, none⟩ (.int .i64 (G3).low)).setCell ⟨u9.heap.size, 1, none⟩ s7 := ⟨_, rfl⟩
  have ocell0 := KR.out.cell0
  have ocell1 := KR.out.cell1
  have ofree0 := KR.out.free0
  have ofree1 := KR.out.free1
  replace IX := Lib.hid (IX.out.pset KR.out (.int .i64 (G3).low) s7)
  replace IY := Lib.hid (IY.out.pset KR.out (.int .i64 (G3).low) s7)
  replace S1 := Lib.hid (S1.out.pset KR.out (.int .i64 (G3).low) s7)
  replace S2 := Lib.hid (S2.out.pset KR.out (.int .i64 (G3).low) s7)
  replace S5 := Lib.hid (S5.out.pset KR.out (.int .i64 (G3).low) s7)
  replace S6 := Lib.hid (S6.out.pset KR.out (.int .i64 (G3).low) s7)
  replace S7 := Lib.hid (S7.out.pset KR.out (.int .i64 (G3).low) s7)
  replace C1 := Lib.hid (C1.out.pset KR.out (.int .i64 (G3).low) s7)
  replace C2 := Lib.hid (C2.out.pset KR.out (.int .i64 (G3).low) s7)
  replace KA := Lib.hid (KA.out.pset nKAKR.out (.int .i64 (G3).low) s7)
  replace KB := Lib.hid (KB.out.pset nKBKR.out (.int .i64 (G3).low) s7)
  replace KM := Lib.hid (KM.out.pset (nKRKM.out).symm (.int .i64 (G3).low) s7)
  replace HB := Lib.hid (below_pset HB.out gKR.out (.int .i64 (G3).low) s7)
  replace KR := Lib.hid (KR.out.set (.int .i64 (G3).low) s7)
  rw [← hW] at IX IY S1 S2 S5 S6 S7 C1 C2 KA KB KR KM HB
  have hW' := hW.symm
  clear hW
  have zC1 := cell_of_one C1.out
  have zC2 := cell_of_one C2.out
  have zKAcell0 := KA.out.cell0
  have zKAcell1 := KA.out.cell1
  have zKAfree0 := KA.out.free0
  have zKAfree1 := KA.out.free1
  have zKBcell0 := KB.out.cell0
  have zKBcell1 := KB.out.cell1
  have zKBfree0 := KB.out.free0
  have zKBfree1 := KB.out.free1
  have zKRcell0 := KR.out.cell0
  have zKRcell1 := KR.out.cell1
  have zKRfree0 := KR.out.free0
  have zKRfree1 := KR.out.free1
  have zKMcell0 := KM.out.cell0
  have zKMcell1 := KM.out.cell1
  have zKMfree0 := KM.out.free0
  have zKMfree1 := KM.out.free1
  go_wp2_with fail
  clear hW' ocell0 ocell1 ofree0 ofree1 zC1 zC2 zKAcell0 zKAcell1 zKAfree0 zKAfree1 zKBcell0 zKBcell1 zKBfree0 zKBfree1 zKRcell0 zKRcell1 zKRfree0 zKRfree1 zKMcell0 zKMcell1 zKMfree0 zKMfree1
  refine (M1.out s5 s6 _ S5.out.ints S6.out.ints).mono ?_
  rintro e u22 ⟨s8, rfl, ho, hb⟩
  have S8 := Lib.hid (ho.low HB.out.size)
  have sss8 := ho.isSl
  clear ho
  replace IX := Lib.hid (IX.out.below hb)
  replace IY := Lib.hid (IY.out.below hb)
  replace S1 := Lib.hid (S1.out.below hb)
  replace S2 := Lib.hid (S2.out.below hb)
  replace S5 := Lib.hid (S5.out.below hb)
  replace S6 := Lib.hid (S6.out.below hb)
  replace S7 := Lib.hid (S7.out.below hb)
  replace C1 := Lib.hid (C1.out.below hb)
  replace C2 := Lib.hid (C2.out.below hb)
  replace KA := Lib.hid (KA.out.below hb)
  replace KB := Lib.hid (KB.out.below hb)
  replace KR := Lib.hid (KR.out.below hb)
  replace KM := Lib.hid (KM.out.below hb)
  replace HB := Lib.hid (Below.chain HB.out hb)
  clear hb
  obtain ⟨u23, hW⟩ : ∃ W, W = (u22.setCell ⟨u11.heap.size, 0, none⟩ (.int .i64 (G3).low)).setCell ⟨u11.heap.size, 1, none⟩ s8 := ⟨_, rfl⟩
  have ocell0 := KM.out.cell0
  have ocell1 := KM.out.cell1
  have ofree0 := KM.out.free0
  have ofree1 := KM.out.free1
  replace IX := Lib.hid (IX.out.pset KM.out (.int .i64 (G3).low) s8)
  replace IY := Lib.hid (IY.out.pset KM.out (.int .i64 (G3).low) s8)
  replace S1 := Lib.hid (S1.out.pset KM.out (.int .i64 (G3).low) s8)
  replace S2 := Lib.hid (S2.out.pset KM.out (.int .i64 (G3).low) s8)
  replace S5 := Lib.hid (S5.out.pset KM.out (.int .i64 (G3).low) s8)
  replace S6 := Lib.hid (S6.out.pset KM.out (.int .i64 (G3).low) s8)
  replace S7 := Lib.hid (S7.out.pset KM.out (.int .i64 (G3).low) s8)
  replace S8 := Lib.hid (S8.out.pset KM.out (.int .i64 (G3).low) s8)
  replace C1 := Lib.hid (C1.out.pset KM.out (.int .i64 (G3).low) s8)
  replace C2 := Lib.hid (C2.out.pset KM.out (.int .i64 (G3).low) s8)
  replace KA := Lib.hid (KA.out.pset nKAKM.out (.int .i64 (G3).low) s8)
  replace KB := Lib.hid (KB.out.pset nKBKM.out (.int .i64 (G3).low) s8)
  replace KR := Lib.hid (KR.out.pset nKRKM.out (.int .i64 (G3).low) s8)
  replace HB := Lib.hid (below_pset HB.out gKM.out (.int .i64 (G3).low) s8)
  replace KM := Lib.hid (KM.out.set (.int .i64 (G3).low) s8)
  rw [← hW] at IX IY S1 S2 S5 S6 S7 S8 C1 C2 KA KB KR KM HB
  have hW' := hW.symm
  clear hW
  have zC1 := cell_of_one C1.out
  have zC2 := cell_of_one C2.out
  have zKAcell0 := KA.out.cell0
  have zKAcell1 := KA.out.cell1
  have zKAfree0 := KA.out.free0
  have zKAfree1 := KA.out.free1
  have zKBcell0 := KB.out.cell0
  have zKBcell1 := KB.out.cell1
  have zKBfree0 := KB.out.free0
  have zKBfree1 := KB.out.free1
  have zKRcell0 := KR.out.cell0
  have zKRcell1 := KR.out.cell1
  have zKRfree0 := KR.out.free0
  have zKRfree1 := KR.out.free1
  have zKMcell0 := KM.out.cell0
  have zKMcell1 := KM.out.cell1
  have zKMfree0 := KM.out.free0
  have zKMfree1 := KM.out.free1
  go_wp2_with fail
  clear hW' ocell0 ocell1 ofree0 ofree1 zC1 zC2 zKAcell0 zKAcell1 zKAfree0 zKAfree1 zKBcell0 zKBcell1 zKBfree0 zKBfree1 zKRcell0 zKRcell1 zKRfree0 zKRfree1 zKMcell0 zKMcell1 zKMfree0 zKMfree1
  refine (topsame_yes G3 G3 s7 s8 _ S7.out.ints S8.out.ints rfl).mono ?_
  rintro e u24 ⟨rfl, hb⟩
  clear S5 S6 S7 S8
  replace IX := Lib.hid (IX.out.below hb)
  replace IY := Lib.hid (IY.out.below hb)
  replace S1 := Lib.hid (S1.out.below hb)
  replace S2 := Lib.hid (S2.out.below hb)
  replace C1 := Lib.hid (C1.out.below hb)
  replace C2 := Lib.hid (C2.out.below hb)
  replace KA := Lib.hid (KA.out.below hb)
  replace KB := Lib.hid (KB.out.below hb)
  replace KR := Lib.hid (KR.out.below hb)
  replace KM := Lib.hid (KM.out.below hb)
  replace HB := Lib.hid (Below.chain HB.out hb)
  clear hb
  have zC1 := cell_of_one C1.out
  have zC2 := cell_of_one C2.out
  have zKAcell0 := KA.out.cell0
  have zKAcell1 := KA.out.cell1
  have zKAfree0 := KA.out.free0
  have zKAfree1 := KA.out.free1
  have zKBcell0 := KB.out.cell0
  have zKBcell1 := KB.out.cell1
  have zKBfree0 := KB.out.free0
  have zKBfree1 := KB.out.free1
  have zKRcell0 := KR.out.cell0
  have zKRcell1 := KR.out.cell1
  have zKRfree0 := KR.out.free0
  have zKRfree1 := KR.out.free1
  have zKMcell0 := KM.out.cell0
  have zKMcell1 := KM.out.cell1
  have zKMfree0 := KM.out.free0
  have zKMfree1 := KM.out.free1
  go_wp2_with fail
  clear zC1 zC2 zKAcell0 zKAcell1 zKAfree0 zKAfree1 zKBcell0 zKBcell1 zKBfree0 zKBfree1 zKRcell0 zKRcell1 zKRfree0 zKRfree1 zKMcell0 zKMcell1 zKMfree0 zKMfree1
  refine (SH.out N _ _ xv yv _ C1.out C2.out IX.out.ints IY.out.ints (by omega)).mono ?_
  rintro e u25 ⟨zw, rfl, ho, hb⟩
  have szw := ho.isSl
  have IZ := Lib.hid ho.ints
  clear ho
  replace IX := Lib.hid (IX.out.below hb)
  replace IY := Lib.hid (IY.out.below hb)
  replace S1 := Lib.hid (S1.out.below hb)
  replace S2 := Lib.hid (S2.out.below hb)
  replace C1 := Lib.hid (C1.out.below hb)
  replace C2 := Lib.hid (C2.out.below hb)
  replace KA := Lib.hid (KA.out.below hb)
  replace KB := Lib.hid (KB.out.below hb)
  replace KR := Lib.hid (KR.out.below hb)
  replace KM := Lib.hid (KM.out.below hb)
  replace HB := Lib.hid (Below.chain HB.out hb)
  clear hb
  go_wp2_with fail
  refine (A4.out _ _ IZ.out).mono ?_
  rintro e u26 ⟨s9, rfl, ho, hb⟩
  clear IZ
  have S9 := Lib.hid (ho.low HB.out.size)
  have sss9 := ho.isSl
  clear ho
  have l9 : vlen s9 = 0 := S9.out.len
  have L9 := Lib.hid l9
  clear l9
  replace IX := Lib.hid (IX.out.below hb)
  replace IY := Lib.hid (IY.out.below hb)
  replace S1 := Lib.hid (S1.out.below hb)
  replace S2 := Lib.hid (S2.out.below hb)
  replace C1 := Lib.hid (C1.out.below hb)
  replace C2 := Lib.hid (C2.out.below hb)
  replace KA := Lib.hid (KA.out.below hb)
  replace KB := Lib.hid (KB.out.below hb)
  replace KR := Lib.hid (KR.out.below hb)
  replace KM := Lib.hid (KM.out.below hb)
  replace HB := Lib.hid (Below.chain HB.out hb)
  clear hb
  obtain ⟨u27, hW⟩ : ∃ W, W = (u26.setCell ⟨u9.heap.size, 0, none⟩ (.int .i64 (pzero).low)).setCell ⟨u9.heap.size, 1, none⟩ s9 := ⟨_, rfl⟩
  have ocell0 := KR.out.cell0
  have ocell1 := KR.out.cell1
  have ofree0 := KR.out.free0
  have ofree1 := KR.out.free1
  replace IX := Lib.hid (IX.out.pset KR.out (.int .i64 (pzero).low) s9)
  replace IY := Lib.hid (IY.out.pset KR.out (.int .i64 (pzero).low) s9)
  replace S1 := Lib.hid (S1.out.pset KR.out (.int .i64 (pzero).low) s9)
  replace S2 := Lib.hid (S2.out.pset KR.out (.int .i64 (pzero).low) s9)
  replace S9 := Lib.hid (S9.out.pset KR.out (.int .i64 (pzero).low) s9)
  replace C1 := Lib.hid (C1.out.pset KR.out (.int .i64 (pzero).low) s9)
  replace C2 := Lib.hid (C2.out.pset KR.out (.int .i64 (pzero).low) s9)
  replace KA := Lib.hid (KA.out.pset nKAKR.out (.int .i64 (pzero).low) s9)
  replace KB := Lib.hid (KB.out.pset nKBKR.out (.int .i64 (pzero).low) s9)
  replace KM := Lib.hid (KM.out.pset (nKRKM.out).symm (.int .i64 (pzero).low) s9)
  replace HB := Lib.hid (below_pset HB.out gKR.out (.int .i64 (pzero).low) s9)
  replace KR := Lib.hid (KR.out.set (.int .i64 (pzero).low) s9)
  rw [← hW] at IX IY S1 S2 S9 C1 C2 KA KB KR KM HB
  have hW' := hW.symm
  clear hW
  have zC1 := cell_of_one C1.out
  have zC2 := cell_of_one C2.out
  have zKAcell0 := KA.out.cell0
  have zKAcell1 := KA.out.cell1
  have zKAfree0 := KA.out.free0
  have zKAfree1 := KA.out.free1
  have zKBcell0 := KB.out.cell0
  have zKBcell1 := KB.out.cell1
  have zKBfree0 := KB.out.free0
  have zKBfree1 := KB.out.free1
  have zKRcell0 := KR.out.cell0
  have zKRcell1 := KR.out.cell1
  have zKRfree0 := KR.out.free0
  have zKRfree1 := KR.out.free1
  have zKMcell0 := KM.out.cell0
  have zKMcell1 := KM.out.cell1
  have zKMfree0 := KM.out.free0
  have zKMfree1 := KM.out.free1
  go_wp2_with fail
  clear hW' ocell0 ocell1 ofree0 ofree1 zC1 zC2 zKAcell0 zKAcell1 zKAfree0 zKAfree1 zKBcell0 zKBcell1 zKBfree0 zKBfree1 zKRcell0 zKRcell1 zKRfree0 zKRfree1 zKMcell0 zKMcell1 zKMfree0 zKMfree1
  refine (SH.out N _ _ xv yv _ C1.out C2.out IX.out.ints IY.out.ints (by omega)).mono ?_
  rintro e u28 ⟨zx, rfl, ho, hb⟩
  have szx := ho.isSl
  have IZ := Lib.hid ho.ints
  clear ho
  replace IX := Lib.hid (IX.out.below hb)
  replace IY := Lib.hid (IY.out.below hb)
  replace S1 := Lib.hid (S1.out.below hb)
  replace S2 := Lib.hid (S2.out.below hb)
  replace S9 := Lib.hid (S9.out.below hb)
  replace C1 := Lib.hid (C1.out.below hb)
  replace C2 := Lib.hid (C2.out.below hb)
  replace KA := Lib.hid (KA.out.below hb)
  replace KB := Lib.hid (KB.out.below hb)
  replace KR := Lib.hid (KR.out.below hb)
  replace KM := Lib.hid (KM.out.below hb)
  replace HB := Lib.hid (Below.chain HB.out hb)
  clear hb
  go_wp2_with fail
  refine (J4.out _ _ IZ.out).mono ?_
  rintro e u29 ⟨D, s10, rfl, ho, t0, q0, n0, v0, hb⟩
  clear IZ
  have S10 := Lib.hid (ho.low HB.out.size)
  have sss10 := ho.isSl
  have TD := Lib.hid t0; have VD := Lib.hid v0; have WD := Lib.hid (pok_jones LD.out t0 q0 n0)
  clear ho t0 q0 n0 v0
  replace IX := Lib.hid (IX.out.below hb)
  replace IY := Lib.hid (IY.out.below hb)
  replace S1 := Lib.hid (S1.out.below hb)
  replace S2 := Lib.hid (S2.out.below hb)
  replace S9 := Lib.hid (S9.out.below hb)
  replace C1 := Lib.hid (C1.out.below hb)
  replace C2 := Lib.hid (C2.out.below hb)
  replace KA := Lib.hid (KA.out.below hb)
  replace KB := Lib.hid (KB.out.below hb)
  replace KR := Lib.hid (KR.out.below hb)
  replace KM := Lib.hid (KM.out.below hb)
  replace HB := Lib.hid (Below.chain HB.out hb)
  clear hb
  have HD := Lib.hid (HA.out D A B TD.out VA.out VB.out VD.out)
  rw [← HR.out] at HD
  have MV := Lib.hid (fun s t W hs ht => mul_calls R ⟨-2, [-1, 0, 0, 0, -1]⟩ s t W hs ht WR.out pok_two (by rw [← HD.out]; exact WD.out))
  rw [← HD.out] at MV
  obtain ⟨u30, hW⟩ : ∃ W, W = u29.alloc (.cells #[.int .i64 (D).low, s10] 40) := ⟨_, rfl⟩
  have hb : Below u29.heap.size u29 u30 := by rw [hW]; exact (Below.refl _ _).alloc (Nat.le_refl _) _
  have nKAKD := Lib.hid (Nat.ne_of_lt KA.out.lt)
  have nKBKD := Lib.hid (Nat.ne_of_lt KB.out.lt)
  have nKRKD := Lib.hid (Nat.ne_of_lt KR.out.lt)
  have nKMKD := Lib.hid (Nat.ne_of_lt KM.out.lt)
  have KD := Lib.hid (show Pair u30 u29.heap.size 40 (.int .i64 (D).low) s10 by rw [hW]; exact pair_new _ _ _ _)
  have gKD := Lib.hid (show w.heap.size ≤ u29.heap.size from HB.out.size)
  replace IX := Lib.hid (IX.out.below hb)
  replace IY := Lib.hid (IY.out.below hb)
  replace S1 := Lib.hid (S1.out.below hb)
  replace S2 := Lib.hid (S2.out.below hb)
  replace S9 := Lib.hid (S9.out.below hb)
  replace S10 := Lib.hid (S10.out.below hb)
  replace C1 := Lib.hid (C1.out.below hb)
  replace C2 := Lib.hid (C2.out.below hb)
  replace KA := Lib.hid (KA.out.below hb)
  replace KB := Lib.hid (KB.out.below hb)
  replace KR := Lib.hid (KR.out.below hb)
  replace KM := Lib.hid (KM.out.below hb)
  replace HB := Lib.hid (Below.chain HB.out hb)
  have hW' := hW.symm
  clear hW hb
  have zC1 := cell_of_one C1.out
  have zC2 := cell_of_one C2.out
  have zKAcell0 := KA.out.cell0
  have zKAcell1 := KA.out.cell1
  have zKAfree0 := KA.out.free0
  have zKAfree1 := KA.out.free1
  have zKBcell0 := KB.out.cell0
  have zKBcell1 := KB.out.cell1
  have zKBfree0 := KB.out.free0
  have zKBfree1 := KB.out.free1
  have zKRcell0 := KR.out.cell0
  have zKRcell1 := KR.out.cell1
  have zKRfree0 := KR.out.free0
  have zKRfree1 := KR.out.free1
  have zKMcell0 := KM.out.cell0
  have zKMcell1 := KM.out.cell1
  have zKMfree0 := KM.out.free0
  have zKMfree1 := KM.out.free1
  have zKDcell0 := KD.out.cell0
  have zKDcell1 := KD.out.cell1
  have zKDfree0 := KD.out.free0
  have zKDfree1 := KD.out.free1
  go_wp2_with fail
  clear hW' zC1 zC2 zKAcell0 zKAcell1 zKAfree0 zKAfree1 zKBcell0 zKBcell1 zKBfree0 zKBfree1 zKRcell0 zKRcell1 zKRfree0 zKRfree1 zKMcell0 zKMcell1 zKMfree0 zKMfree1 zKDcell0 zKDcell1 zKDfree0 zKDfree1
  refine (E1.out _ _ IX.out.ints A TA.out VA.out).mono ?_
  rintro e u31 ⟨s11, rfl, ho, hb⟩
  have S11 := Lib.hid (ho.low HB.out.size)
  have sss11 := ho.isSl
  clear ho
  replace IX := Lib.hid (IX.out.below hb)
  replace IY := Lib.hid (IY.out.below hb)
  replace S1 := Lib.hid (S1.out.below hb)
  replace S2 := Lib.hid (S2.out.below hb)
  replace S9 := Lib.hid (S9.out.below hb)
  replace S10 := Lib.hid (S10.out.below hb)
  replace C1 := Lib.hid (C1.out.below hb)
  replace C2 := Lib.hid (C2.out.below hb)
  replace KA := Lib.hid (KA.out.below hb)
  replace KB := Lib.hid (KB.out.below hb)
  replace KR := Lib.hid (KR.out.below hb)
  replace KM := Lib.hid (KM.out.below hb)
  replace KD := Lib.hid (KD.out.below hb)
  replace HB := Lib.hid (Below.chain HB.out hb)
  clear hb
  obtain ⟨u32, hW⟩ : ∃ W, W = (u31.setCell ⟨u4.heap.size, 0, none⟩ (.int .i64 (A).low)).setCell ⟨u4.heap.size, 1, none⟩ s11 := ⟨_, rfl⟩
  have ocell0 := KA.out.cell0
  have ocell1 := KA.out.cell1
  have ofree0 := KA.out.free0
  have ofree1 := KA.out.free1
  replace IX := Lib.hid (IX.out.pset KA.out (.int .i64 (A).low) s11)
  replace IY := Lib.hid (IY.out.pset KA.out (.int .i64 (A).low) s11)
  replace S1 := Lib.hid (S1.out.pset KA.out (.int .i64 (A).low) s11)
  replace S2 := Lib.hid (S2.out.pset KA.out (.int .i64 (A).low) s11)
  replace S9 := Lib.hid (S9.out.pset KA.out (.int .i64 (A).low) s11)
  replace S10 := Lib.hid (S10.out.pset KA.out (.int .i64 (A).low) s11)
  replace S11 := Lib.hid (S11.out.pset KA.out (.int .i64 (A).low) s11)
  replace C1 := Lib.hid (C1.out.pset KA.out (.int .i64 (A).low) s11)
  replace C2 := Lib.hid (C2.out.pset KA.out (.int .i64 (A).low) s11)
  replace KB := Lib.hid (KB.out.pset (nKAKB.out).symm (.int .i64 (A).low) s11)
  replace KR := Lib.hid (KR.out.pset (nKAKR.out).symm (.int .i64 (A).low) s11)
  replace KM := Lib.hid (KM.out.pset (nKAKM.out).symm (.int .i64 (A).low) s11)
  replace KD := Lib.hid (KD.out.pset (nKAKD.out).symm (.int .i64 (A).low) s11)
  replace HB := Lib.hid (below_pset HB.out gKA.out (.int .i64 (A).low) s11)
  replace KA := Lib.hid (KA.out.set (.int .i64 (A).low) s11)
  rw [← hW] at IX IY S1 S2 S9 S10 S11 C1 C2 KA KB KR KM KD HB
  have hW' := hW.symm
  clear hW
  have zC1 := cell_of_one C1.out
  have zC2 := cell_of_one C2.out
  have zKAcell0 := KA.out.cell0
  have zKAcell1 := KA.out.cell1
  have zKAfree0 := KA.out.free0
  have zKAfree1 := KA.out.free1
  have zKBcell0 := KB.out.cell0
  have zKBcell1 := KB.out.cell1
  have zKBfree0 := KB.out.free0
  have zKBfree1 := KB.out.free1
  have zKRcell0 := KR.out.cell0
  have zKRcell1 := KR.out.cell1
  have zKRfree0 := KR.out.free0
  have zKRfree1 := KR.out.free1
  have zKMcell0 := KM.out.cell0
  have zKMcell1 := KM.out.cell1
  have zKMfree0 := KM.out.free0
  have zKMfree1 := KM.out.free1
  have zKDcell0 := KD.out.cell0
  have zKDcell1 := KD.out.cell1
  have zKDfree0 := KD.out.free0
  have zKDfree1 := KD.out.free1
  go_wp2_with fail
  clear hW' ocell0 ocell1 ofree0 ofree1 zC1 zC2 zKAcell0 zKAcell1 zKAfree0 zKAfree1 zKBcell0 zKBcell1 zKBfree0 zKBfree1 zKRcell0 zKRcell1 zKRfree0 zKRfree1 zKMcell0 zKMcell1 zKMfree0 zKMfree1 zKDcell0 zKDcell1 zKDfree0 zKDfree1
  refine (E2.out _ _ IY.out.ints B TB.out VB.out).mono ?_
  rintro e u33 ⟨s12, rfl, ho, hb⟩
  have S12 := Lib.hid (ho.low HB.out.size)
  have sss12 := ho.isSl
  clear ho
  replace IX := Lib.hid (IX.out.below hb)
  replace IY := Lib.hid (IY.out.below hb)
  replace S1 := Lib.hid (S1.out.below hb)
  replace S2 := Lib.hid (S2.out.below hb)
  replace S9 := Lib.hid (S9.out.below hb)
  replace S10 := Lib.hid (S10.out.below hb)
  replace S11 := Lib.hid (S11.out.below hb)
  replace C1 := Lib.hid (C1.out.below hb)
  replace C2 := Lib.hid (C2.out.below hb)
  replace KA := Lib.hid (KA.out.below hb)
  replace KB := Lib.hid (KB.out.below hb)
  replace KR := Lib.hid (KR.out.below hb)
  replace KM := Lib.hid (KM.out.below hb)
  replace KD := Lib.hid (KD.out.below hb)
  replace HB := Lib.hid (Below.chain HB.out hb)
  clear hb
  obtain ⟨u34, hW⟩ : ∃ W, W = (u33.setCell ⟨u6.heap.size, 0, none⟩ (.int .i64 (B).low)).setCell ⟨u6.heap.size, 1, none⟩ s12 := ⟨_, rfl⟩
  have ocell0 := KB.out.cell0
  have ocell1 := KB.out.cell1
  have ofree0 := KB.out.free0
  have ofree1 := KB.out.free1
  replace IX := Lib.hid (IX.out.pset KB.out (.int .i64 (B).low) s12)
  replace IY := Lib.hid (IY.out.pset KB.out (.int .i64 (B).low) s12)
  replace S1 := Lib.hid (S1.out.pset KB.out (.int .i64 (B).low) s12)
  replace S2 := Lib.hid (S2.out.pset KB.out (.int .i64 (B).low) s12)
  replace S9 := Lib.hid (S9.out.pset KB.out (.int .i64 (B).low) s12)
  replace S10 := Lib.hid (S10.out.pset KB.out (.int .i64 (B).low) s12)
  replace S11 := Lib.hid (S11.out.pset KB.out (.int .i64 (B).low) s12)
  replace S12 := Lib.hid (S12.out.pset KB.out (.int .i64 (B).low) s12)
  replace C1 := Lib.hid (C1.out.pset KB.out (.int .i64 (B).low) s12)
  replace C2 := Lib.hid (C2.out.pset KB.out (.int .i64 (B).low) s12)
  replace KA := Lib.hid (KA.out.pset nKAKB.out (.int .i64 (B).low) s12)
  replace KR := Lib.hid (KR.out.pset (nKBKR.out).symm (.int .i64 (B).low) s12)
  replace KM := Lib.hid (KM.out.pset (nKBKM.out).symm (.int .i64 (B).low) s12)
  replace KD := Lib.hid (KD.out.pset (nKBKD.out).symm (.int .i64 (B).low) s12)
  replace HB := Lib.hid (below_pset HB.out gKB.out (.int .i64 (B).low) s12)
  replace KB := Lib.hid (KB.out.set (.int .i64 (B).low) s12)
  rw [← hW] at IX IY S1 S2 S9 S10 S11 S12 C1 C2 KA KB KR KM KD HB
  have hW' := hW.symm
  clear hW
  have zC1 := cell_of_one C1.out
  have zC2 := cell_of_one C2.out
  have zKAcell0 := KA.out.cell0
  have zKAcell1 := KA.out.cell1
  have zKAfree0 := KA.out.free0
  have zKAfree1 := KA.out.free1
  have zKBcell0 := KB.out.cell0
  have zKBcell1 := KB.out.cell1
  have zKBfree0 := KB.out.free0
  have zKBfree1 := KB.out.free1
  have zKRcell0 := KR.out.cell0
  have zKRcell1 := KR.out.cell1
  have zKRfree0 := KR.out.free0
  have zKRfree1 := KR.out.free1
  have zKMcell0 := KM.out.cell0
  have zKMcell1 := KM.out.cell1
  have zKMfree0 := KM.out.free0
  have zKMfree1 := KM.out.free1
  have zKDcell0 := KD.out.cell0
  have zKDcell1 := KD.out.cell1
  have zKDfree0 := KD.out.free0
  have zKDfree1 := KD.out.free1
  go_wp2_with fail
  clear hW' ocell0 ocell1 ofree0 ofree1 zC1 zC2 zKAcell0 zKAcell1 zKAfree0 zKAfree1 zKBcell0 zKBcell1 zKBfree0 zKBfree1 zKRcell0 zKRcell1 zKRfree0 zKRfree1 zKMcell0 zKMcell1 zKMfree0 zKMfree1 zKDcell0 zKDcell1 zKDfree0 zKDfree1
  refine (MU.out s11 s12 _ S11.out.ints S12.out.ints).mono ?_
  rintro e u35 ⟨s13, rfl, ho, hb⟩
  have S13 := Lib.hid (ho.low HB.out.size)
  have sss13 := ho.isSl
  clear ho
  clear S11 S12
  replace IX := Lib.hid (IX.out.below hb)
  replace IY := Lib.hid (IY.out.below hb)
  replace S1 := Lib.hid (S1.out.below hb)
  replace S2 := Lib.hid (S2.out.below hb)
  replace S9 := Lib.hid (S9.out.below hb)
  replace S10 := Lib.hid (S10.out.below hb)
  replace C1 := Lib.hid (C1.out.below hb)
  replace C2 := Lib.hid (C2.out.below hb)
  replace KA := Lib.hid (KA.out.below hb)
  replace KB := Lib.hid (KB.out.below hb)
  replace KR := Lib.hid (KR.out.below hb)
  replace KM := Lib.hid (KM.out.below hb)
  replace KD := Lib.hid (KD.out.below hb)
  replace HB := Lib.hid (Below.chain HB.out hb)
  clear hb
  obtain ⟨u36, hW⟩ : ∃ W, W = (u35.setCell ⟨u11.heap.size, 0, none⟩ (.int .i64 (R).low)).setCell ⟨u11.heap.size, 1, none⟩ s13 := ⟨_, rfl⟩
  have ocell0 := KM.out.cell0
  have ocell1 := KM.out.cell1
  have ofree0 := KM.out.free0
  have ofree1 := KM.out.free1
  replace IX := Lib.hid (IX.out.pset KM.out (.int .i64 (R).low) s13)
  replace IY := Lib.hid (IY.out.pset KM.out (.int .i64 (R).low) s13)
  replace S1 := Lib.hid (S1.out.pset KM.out (.int .i64 (R).low) s13)
  replace S2 := Lib.hid (S2.out.pset KM.out (.int .i64 (R).low) s13)
  replace S9 := Lib.hid (S9.out.pset KM.out (.int .i64 (R).low) s13)
  replace S10 := Lib.hid (S10.out.pset KM.out (.int .i64 (R).low) s13)
  replace S13 := Lib.hid (S13.out.pset KM.out (.int .i64 (R).low) s13)
  replace C1 := Lib.hid (C1.out.pset KM.out (.int .i64 (R).low) s13)
  replace C2 := Lib.hid (C2.out.pset KM.out (.int .i64 (R).low) s13)
  replace KA := Lib.hid (KA.out.pset nKAKM.out (.int .i64 (R).low) s13)
  replace KB := Lib.hid (KB.out.pset nKBKM.out (.int .i64 (R).low) s13)
  replace KR := Lib.hid (KR.out.pset nKRKM.out (.int .i64 (R).low) s13)
  replace KD := Lib.hid (KD.out.pset (nKMKD.out).symm (.int .i64 (R).low) s13)
  replace HB := Lib.hid (below_pset HB.out gKM.out (.int .i64 (R).low) s13)
  replace KM := Lib.hid (KM.out.set (.int .i64 (R).low) s13)
  rw [← hW] at IX IY S1 S2 S9 S10 S13 C1 C2 KA KB KR KM KD HB
  have hW' := hW.symm
  clear hW
  have zC1 := cell_of_one C1.out
  have zC2 := cell_of_one C2.out
  have zKAcell0 := KA.out.cell0
  have zKAcell1 := KA.out.cell1
  have zKAfree0 := KA.out.free0
  have zKAfree1 := KA.out.free1
  have zKBcell0 := KB.out.cell0
  have zKBcell1 := KB.out.cell1
  have zKBfree0 := KB.out.free0
  have zKBfree1 := KB.out.free1
  have zKRcell0 := KR.out.cell0
  have zKRcell1 := KR.out.cell1
  have zKRfree0 := KR.out.free0
  have zKRfree1 := KR.out.free1
  have zKMcell0 := KM.out.cell0
  have zKMcell1 := KM.out.cell1
  have zKMfree0 := KM.out.free0
  have zKMfree1 := KM.out.free1
  have zKDcell0 := KD.out.cell0
  have zKDcell1 := KD.out.cell1
  have zKDfree0 := KD.out.free0
  have zKDfree1 := KD.out.free1
  go_wp2_with fail
  clear hW' ocell0 ocell1 ofree0 ofree1 zC1 zC2 zKAcell0 zKAcell1 zKAfree0 zKAfree1 zKBcell0 zKBcell1 zKBfree0 zKBfree1 zKRcell0 zKRcell1 zKRfree0 zKRfree1 zKMcell0 zKMcell1 zKMfree0 zKMfree1 zKDcell0 zKDcell1 zKDfree0 zKDfree1
  refine (MV.out s13 _ _ (S13.out.alloc _).ints (ints_lit [-1, 0, 0, 0, -1] (by simp) rfl rfl (by decide))).mono ?_
  rintro e u37 ⟨s14, rfl, ho, hb⟩
  replace hb := Below.chain ((Below.refl _ _).alloc (Nat.le_refl _) _) hb
  have S14 := Lib.hid (ho.low (Nat.le_trans HB.out.size (by simp)))
  have sss14 := ho.isSl
  clear ho
  replace IX := Lib.hid (IX.out.below hb)
  replace IY := Lib.hid (IY.out.below hb)
  replace S1 := Lib.hid (S1.out.below hb)
  replace S2 := Lib.hid (S2.out.below hb)
  replace S9 := Lib.hid (S9.out.below hb)
  replace S10 := Lib.hid (S10.out.below hb)
  replace S13 := Lib.hid (S13.out.below hb)
  replace C1 := Lib.hid (C1.out.below hb)
  replace C2 := Lib.hid (C2.out.below hb)
  replace KA := Lib.hid (KA.out.below hb)
  replace KB := Lib.hid (KB.out.below hb)
  replace KR := Lib.hid (KR.out.below hb)
  replace KM := Lib.hid (KM.out.below hb)
  replace KD := Lib.hid (KD.out.below hb)
  replace HB := Lib.hid (Below.chain HB.out hb)
  clear hb
  obtain ⟨u38, hW⟩ : ∃ W, W = (u37.setCell ⟨u11.heap.size, 0, none⟩ (.int .i64 (D).low)).setCell ⟨u11.heap.size, 1, none⟩ s14 := ⟨_, rfl⟩
  have ocell0 := KM.out.cell0
  have ocell1 := KM.out.cell1
  have ofree0 := KM.out.free0
  have ofree1 := KM.out.free1
  replace IX := Lib.hid (IX.out.pset KM.out (.int .i64 (D).low) s14)
  replace IY := Lib.hid (IY.out.pset KM.out (.int .i64 (D).low) s14)
  replace S1 := Lib.hid (S1.out.pset KM.out (.int .i64 (D).low) s14)
  replace S2 := Lib.hid (S2.out.pset KM.out (.int .i64 (D).low) s14)
  replace S9 := Lib.hid (S9.out.pset KM.out (.int .i64 (D).low) s14)
  replace S10 := Lib.hid (S10.out.pset KM.out (.int .i64 (D).low) s14)
  replace S13 := Lib.hid (S13.out.pset KM.out (.int .i64 (D).low) s14)
  replace S14 := Lib.hid (S14.out.pset KM.out (.int .i64 (D).low) s14)
  replace C1 := Lib.hid (C1.out.pset KM.out (.int .i64 (D).low) s14)
  replace C2 := Lib.hid (C2.out.pset KM.out (.int .i64 (D).low) s14)
  replace KA := Lib.hid (KA.out.pset nKAKM.out (.int .i64 (D).low) s14)
  replace KB := Lib.hid (KB.out.pset nKBKM.out (.int .i64 (D).low) s14)
  replace KR := Lib.hid (KR.out.pset nKRKM.out (.int .i64 (D).low) s14)
  replace KD := Lib.hid (KD.out.pset (nKMKD.out).symm (.int .i64 (D).low) s14)
  replace HB := Lib.hid (below_pset HB.out gKM.out (.int .i64 (D).low) s14)
  replace KM := Lib.hid (KM.out.set (.int .i64 (D).low) s14)
  rw [← hW] at IX IY S1 S2 S9 S10 S13 S14 C1 C2 KA KB KR KM KD HB
  have hW' := hW.symm
  clear hW
  have zC1 := cell_of_one C1.out
  have zC2 := cell_of_one C2.out
  have zKAcell0 := KA.out.cell0
  have zKAcell1 := KA.out.cell1
  have zKAfree0 := KA.out.free0
  have zKAfree1 := KA.out.free1
  have zKBcell0 := KB.out.cell0
  have zKBcell1 := KB.out.cell1
  have zKBfree0 := KB.out.free0
  have zKBfree1 := KB.out.free1
  have zKRcell0 := KR.out.cell0
  have zKRcell1 := KR.out.cell1
  have zKRfree0 := KR.out.free0
  have zKRfree1 := KR.out.free1
  have zKMcell0 := KM.out.cell0
  have zKMcell1 := KM.out.cell1
  have zKMfree0 := KM.out.free0
  have zKMfree1 := KM.out.free1
  have zKDcell0 := KD.out.cell0
  have zKDcell1 := KD.out.cell1
  have zKDfree0 := KD.out.free0
  have zKDfree1 := KD.out.free1
  have l9 := L9.out
  go_wp2_with fail
  clear hW' ocell0 ocell1 ofree0 ofree1 zC1 zC2 zKAcell0 zKAcell1 zKAfree0 zKAfree1 zKBcell0 zKBcell1 zKBfree0 zKBfree1 zKRcell0 zKRcell1 zKRfree0 zKRfree1 zKMcell0 zKMcell1 zKMfree0 zKMfree1 zKDcell0 zKDcell1 zKDfree0 zKDfree1
  refine (topsame_yes D D s10 s14 _ S10.out.ints S14.out.ints rfl).mono ?_
  rintro e u39 ⟨rfl, hb⟩
  replace IX := Lib.hid (IX.out.below hb)
  replace IY := Lib.hid (IY.out.below hb)
  replace S1 := Lib.hid (S1.out.below hb)
  replace S2 := Lib.hid (S2.out.below hb)
  replace S9 := Lib.hid (S9.out.below hb)
  replace S10 := Lib.hid (S10.out.below hb)
  replace S13 := Lib.hid (S13.out.below hb)
  replace S14 := Lib.hid (S14.out.below hb)
  replace C1 := Lib.hid (C1.out.below hb)
  replace C2 := Lib.hid (C2.out.below hb)
  replace KA := Lib.hid (KA.out.below hb)
  replace KB := Lib.hid (KB.out.below hb)
  replace KR := Lib.hid (KR.out.below hb)
  replace KM := Lib.hid (KM.out.below hb)
  replace KD := Lib.hid (KD.out.below hb)
  replace HB := Lib.hid (Below.chain HB.out hb)
  clear hb
  go_wp2_with fail
  go_ret
  exact ⟨rfl, HB.out⟩
end Go.Proofs.Ytplekfgadbjgdaa


/- jonesSkein: for every input the statement returns true, and nothing that was there has changed. -/
import Derived.Test.YtckopilciekfbaaQJonesSkein0
import Derived.Test.YtckopilciekfbaaQJonesSkein1
import Derived.Test.YtckopilciekfbaaQJonesSkein2
import Derived.Test.YtckopilciekfbaaQJonesSkein3
import Derived.Test.YtckopilciekfbaaQJonesSkein4
import Derived.Test.YtckopilciekfbaaQJonesSkein5
import Derived.Test.YtckopilciekfbaaQJonesSkein6
import Derived.Test.YtckopilciekfbaaQJonesSkein7
import Derived.Test.YtckopilciekfbaaQJonesSkein8
import Derived.Test.YtckopilciekfbaaQJonesSkein9
import Derived.Test.YtckopilciekfbaaQJonesSkein10
import Derived.Test.YtckopilciekfbaaQJonesSkein11
import Derived.Test.YtckopilciekfbaaQJonesSkein12
import Derived.Test.YtckopilciekfbaaQJonesSkein13
import Derived.Test.YtckopilciekfbaaQJonesSkein14
import Derived.Test.YtckopilciekfbaaQJonesSkein15
import Derived.Test.YtckopilciekfbaaQJonesSkein16
import Derived.Test.YtckopilciekfbaaQJonesSkein17
import Derived.Test.YtckopilciekfbaaQJonesSkein18
import Derived.Test.YtckopilciekfbaaQJonesSkein19
import Derived.Test.YtckopilciekfbaaQJonesSkein20
import Derived.Test.YtckopilciekfbaaQJonesSkein21
import Derived.Test.YtckopilciekfbaaQJonesSkein22
import Derived.Test.YtckopilciekfbaaQJonesSkein23
import Derived.Test.YtckopilciekfbaaQJonesSkein24
import Derived.Test.YtckopilciekfbaaQJonesSkein25
import Derived.Test.YtckopilciekfbaaQJonesSkein26
import Derived.Test.YtckopilciekfbaaQJonesSkein27
import Derived.Test.YtckopilciekfbaaQJonesSkein28
import Derived.Test.YtckopilciekfbaaQJonesSkein29
import Derived.Test.YtckopilciekfbaaQJonesSkein30
import Derived.Test.YtckopilciekfbaaQJonesSkein31
import Derived.Test.YtckopilciekfbaaQJonesSkein32
import Derived.Test.YtckopilciekfbaaQJonesSkein33
import Derived.Test.YtckopilciekfbaaQJonesSkein34
import Derived.Test.YtckopilciekfbaaQJonesSkein35
import Derived.Test.YtckopilciekfbaaQJonesSkein36
import Derived.Test.YtckopilciekfbaaQJonesSkein37
import Derived.RangeFuncNested
import Derived.RangeFuncCalls
import Derived.OrdersIn
import Derived.OrdersHeld
import Derived.Deep.RegionHeld
import Derived.RangeFuncBound
import Derived.RangeFuncLeaves
import Derived.RangeFuncBox
import Derived.Shelf.Abstract
import Derived.Shelf.RegionOpen
import Derived.OwnWalkIn
import Derived.TacticsInMore
import Derived.LoopNIn
import Derived.LoopIn
import Derived.Maps.AppendAt
import Derived.Deep.RegionLaw
import Derived.Deep.CutRange
namespace Go.Proofs.Ytckopilciekfbaa
open Go.RowKit Go.Sl Go.Mp Go.TL

def lit4 : LP := ⟨4, [1]⟩
def litm : LP := ⟨-4, [1]⟩
def litr : LP := ⟨-2, [1, 0, 0, 0, -1]⟩
theorem lit4_ok : POk lit4 := ⟨by decide, by decide, by decide, tr_lit (by decide) (by decide) (by decide), by decide, by decide⟩
theorem litm_ok : POk litm := ⟨by decide, by decide, by decide, tr_lit (by decide) (by decide) (by decide), by decide, by decide⟩
theorem litr_ok : POk litr := ⟨by decide, by decide, by decide, tr_lit (by decide) (by decide) (by decide), by decide, by decide⟩
theorem ev_lit4 (t : Rat) : ev lit4 t = t ^ (4 : Int) := by simp only [ev, evL, lit4]; grind
theorem ev_litm (t : Rat) : ev litm t = t ^ (-4 : Int) := by simp only [ev, evL, litm]; grind
theorem ev_litr {t : Rat} (ht : t ≠ 0) : ev litr t = t ^ (-2 : Int) * (1 - t ^ (4 : Int)) := by
  have z4 : t ^ (4 : Int) = t * t * t * t := by
    have : (4 : Int) = ((4 : Nat) : Int) := rfl
    rw [this, Rat.zpow_natCast]; grind
  have e : ((-1 : Int) : Rat) = -1 := by simp
  have e1 : ((1 : Int) : Rat) = 1 := by simp
  have e0 : ((0 : Int) : Rat) = 0 := by simp
  simp only [ev, evL, litr, z4, e, e0, e1]; grind
theorem word_len {L k : Nat} (h : L ≤ k) (h2 : k ≤ 12) : 3 ^ L * 32 ≤ 17006112 := by
  have := pow3_le (k := L) (by omega)
  omega
theorem pok_jones {p : LP} {L : Nat} (hl : L ≤ 12) (ht : Trimmed p) (hw : Within p (-(6 * (L : Int) + 10)) (6 * (L : Int) + 11)) (hn : n1 p.c ≤ 3 ^ L * 32) : POk p :=
  POk.of ht hw (by omega) (by omega) (by omega) (by omega) (Nat.le_trans hn (Nat.le_trans (word_len (Nat.le_refl L) hl) (by omega)))
/-- All sides of the relation fit, and are one. -/
theorem skein_all {n N Tr : Nat} {S : List (List Nat)} {P : List Nat} (H : MJ n N S P Tr) {X Y : List Int} {x : Int} (hx : 0 < x) {p q r : LP} {L : Nat} (hL : L ≤ 12)
    (hp : Trimmed p ∧ Within p (-(6 * (L : Int) + 10)) (6 * (L : Int) + 11) ∧ n1 p.c ≤ 3 ^ L * 32) (hq : Trimmed q ∧ Within q (-(6 * (L : Int) + 10)) (6 * (L : Int) + 11) ∧ n1 q.c ≤ 3 ^ L * 32) (hr : Trimmed r ∧ Within r (-(6 * (L : Int) + 10)) (6 * (L : Int) + 11) ∧ n1 r.c ≤ 3 ^ L * 32)
    (vp : ∀ t : Rat, t ≠ 0 → ev p t = jonesV P N Tr t (X ++ [x] ++ Y)) (vq : ∀ t : Rat, t ≠ 0 → ev q t = jonesV P N Tr t (X ++ [-x] ++ Y)) (vr : ∀ t : Rat, t ≠ 0 → ev r t = jonesV P N Tr t (X ++ Y)) :
    POk (pmul lit4 p) ∧ POk (pmul litm q) ∧ POk (padd (pmul lit4 p) (pmul litm q) (-1)) ∧ POk (pmul litr r) ∧ padd (pmul lit4 p) (pmul litm q) (-1) = pmul litr r := by
  have w4 : Within lit4 4 5 := within_self lit4
  have wm : Within litm (-4) (-3) := within_self litm
  have wr : Within litr (-2) 3 := within_self litr
  have b := word_len (Nat.le_refl L) hL
  have np : n1 (pmul lit4 p).c ≤ 17006112 := Nat.le_trans (n1_pmul _ _) (Nat.le_trans (Nat.mul_le_mul (show n1 lit4.c ≤ 1 by decide) (Nat.le_trans hp.2.2 b)) (by omega))
  have nq : n1 (pmul litm q).c ≤ 17006112 := Nat.le_trans (n1_pmul _ _) (Nat.le_trans (Nat.mul_le_mul (show n1 litm.c ≤ 1 by decide) (Nat.le_trans hq.2.2 b)) (by omega))
  have nr : n1 (pmul litr r).c ≤ 34012224 := Nat.le_trans (n1_pmul _ _) (Nat.le_trans (Nat.mul_le_mul (show n1 litr.c ≤ 2 by decide) (Nat.le_trans hr.2.2 b)) (by omega))
  have W1 : Within (pmul lit4 p) (-90) 100 := (within_pmul w4 hp.2.1).mono (by omega) (by omega)
  have W2 : Within (pmul litm q) (-90) 100 := (within_pmul wm hq.2.1).mono (by omega) (by omega)
  have W3 : Within (pmul litr r) (-90) 100 := (within_pmul wr hr.2.1).mono (by omega) (by omega)
  have na := n1_padd (pmul lit4 p) (pmul litm q) (-1)
  have e : (-1 : Int).natAbs = 1 := rfl
  rw [e, Nat.one_mul] at na
  refine ⟨POk.of (pmul_trimmed _ _) W1 (by omega) (by omega) (by omega) (by omega) (by omega), POk.of (pmul_trimmed _ _) W2 (by omega) (by omega) (by omega) (by omega) (by omega),
    POk.of (padd_trimmed _ _ _) (within_padd W1 W2 (-1)) (by omega) (by omega) (by omega) (by omega) (by omega), POk.of (pmul_trimmed _ _) W3 (by omega) (by omega) (by omega) (by omega) (by omega), ?_⟩
  refine ev_ext (padd_trimmed _ _ _) (pmul_trimmed _ _) fun t ht => ?_
  rw [ev_padd _ _ _ ht, ev_pmul _ _ ht, ev_pmul _ _ ht, ev_pmul _ _ ht, ev_lit4, ev_litm, ev_litr ht, vp t ht, vq t ht, vr t ht, ← skein_ev H ht X Y hx]
  have e1 : ((-1 : Int) : Rat) = -1 := by simp
  rw [e1]; grind
theorem pw {p : LP} {L : Nat} {F : Prop} (h : Trimmed p ∧ Within p (-(6 * (L : Int) + 10)) (6 * (L : Int) + 11) ∧ n1 p.c ≤ 3 ^ L * 32 ∧ F) (hL : L ≤ 11) : Trimmed p ∧ Within p (-(6 * ((11 : Nat) : Int) + 10)) (6 * ((11 : Nat) : Int) + 11) ∧ n1 p.c ≤ 3 ^ 11 * 32 :=
  ⟨h.1, h.2.1.mono (by omega) (by omega), Nat.le_trans h.2.2.1 (Nat.mul_le_mul (Nat.pow_le_pow_right (by decide) hL) (Nat.le_refl _))⟩
theorem rowsV_3J {w : World} {u v x : Value} {xs ys zs : List Int} (h : Ints w u xs) (k : Ints w v ys) (l : Ints w x zs) : RowsV (w.alloc (.cells #[u, v, x] 22)) (.slice (some ⟨w.heap.size, 0, none⟩) 3 3) [u, v, x] [xs, ys, zs] := by
  refine ⟨⟨isSl_mk _ _ _ _ (Nat.le_refl _) (by decide), rfl, fun j c hc => ?_⟩, rfl, fun i hi => ?_⟩
  · rw [vat_mk, Nat.zero_add]
    rw [cell_of_row _ _ j _ _ _ (Go.heap_alloc_new w _)]
    simpa using hc
  · simp only [List.length_cons, List.length_nil] at hi
    rcases (show i = 0 ∨ i = 1 ∨ i = 2 by omega) with rfl | rfl | rfl
    · exact h.alloc _
    · exact k.alloc _
    · exact l.alloc _
theorem rowsV_2J {w : World} {u v : Value} {xs ys : List Int} (h : Ints w u xs) (k : Ints w v ys) : RowsV (w.alloc (.cells #[u, v] 22)) (.slice (some ⟨w.heap.size, 0, none⟩) 2 2) [u, v] [xs, ys] := by
  refine ⟨⟨isSl_mk _ _ _ _ (Nat.le_refl _) (by decide), rfl, fun j c hc => ?_⟩, rfl, fun i hi => ?_⟩
  · rw [vat_mk, Nat.zero_add]
    rw [cell_of_row _ _ j _ _ _ (Go.heap_alloc_new w _)]
    simpa using hc
  · simp only [List.length_cons, List.length_nil] at hi
    rcases (show i = 0 ∨ i = 1 by omega) with rfl | rfl
    · exact h.alloc _
    · exact k.alloc _

set_option maxHeartbeats 8000000 in
set_option maxRecDepth 100000 in
theorem jonesSkein_true {w0 : World} (n : Int) (hn : I64 n) (a : Value) (as1 : List Int) (hra : Ints w0 a as1) (hxa : ∀ x ∈ as1, I64 x) (b : Value) (bs1 : List Int) (hrb : Ints w0 b bs1) (hxb : ∀ x ∈ bs1, I64 x) (i : Int) (hi : I64 i) (w : World) (hw : w = w0 := by rfl) :
    Calls Try.prog 9 #[.int .i64 n, a, b, .int .i64 i] w fun e w' => e = .returned (.bool true) ∧ Below w.heap.size w w' := by
  subst hw
  obtain ⟨N0, hN⟩ : ∃ N : Nat, 2 + n % (6 - 1) = (N : Int) := ⟨(2 + n % (6 - 1)).toNat, by omega⟩
  have hN1 : 2 ≤ N0 := by omega
  have hN2 : N0 ≤ 6 := by omega
  have hN3 : 1 ≤ N0 := by omega
  obtain ⟨M, S, P, Tr, H⟩ := mj_all N0 hN1 hN2
  have sa := hra.isSl
  have sb := hrb.isSl
  obtain ⟨X, hX⟩ : ∃ X, X = wordL ((N0 : Int) - 1) as1 5 := ⟨_, rfl⟩
  obtain ⟨Y, hY⟩ : ∃ Y, Y = wordL ((N0 : Int) - 1) bs1 5 := ⟨_, rfl⟩
  obtain ⟨I, hI⟩ : ∃ I, 1 + i % ((N0 : Int) - 1) = I := ⟨_, rfl⟩
  have hI1 : 0 < I := by have := Int.emod_nonneg i (show (N0 : Int) - 1 ≠ 0 by omega); omega
  have hI2 : I < N0 := by have := Int.emod_lt_of_pos i (show 0 < (N0 : Int) - 1 by omega); omega
  have hwI : IntKind.i64.wrap (1 + i % ((N0 : Int) - 1)) = I := by rw [hI]; exact IntWalk.i64_in _ ⟨by omega, by omega⟩
  have hwN : IntKind.i64.wrap ((N0 : Int) - 1) = (N0 : Int) - 1 := IntWalk.i64_in _ ⟨by omega, by omega⟩
  have bX : BWord (N0 : Int) X := by rw [hX]; exact wordL_bw (by omega) as1 5
  have bY : BWord (N0 : Int) Y := by rw [hY]; exact wordL_bw (by omega) bs1 5
  have lX : X.length ≤ 5 := by rw [hX]; exact wordL_length _ as1 5
  have lY : Y.length ≤ 5 := by rw [hY]; exact wordL_length _ bs1 5
  have n1' : NWord N0 (X ++ [I] ++ Y) := fun x hx => by
    simp only [List.mem_append, List.mem_singleton] at hx
    rcases hx with (hx | rfl) | hx
    · have := bX x hx; omega
    · omega
    · have := bY x hx; omega
  have n2' : NWord N0 (X ++ [-I] ++ Y) := fun x hx => by
    simp only [List.mem_append, List.mem_singleton] at hx
    rcases hx with (hx | rfl) | hx
    · have := bX x hx; omega
    · omega
    · have := bY x hx; omega
  have n3' : NWord N0 (X ++ Y) := fun x hx => by
    simp only [List.mem_append] at hx
    rcases hx with hx | hx
    · have := bX x hx; omega
    · have := bY x hx; omega
  have J1 := Lib.hid (fun W v hv => jones_calls H hN3 hN2 v (X ++ [I] ++ Y) W hv n1' (by simp; omega))
  have J2 := Lib.hid (fun W v hv => jones_calls H hN3 hN2 v (X ++ [-I] ++ Y) W hv n2' (by simp; omega))
  have J3 := Lib.hid (fun W v hv => jones_calls H hN3 hN2 v (X ++ Y) W hv n3' (by simp; omega))
  have f1 : [X, [I], Y].flatten = X ++ [I] ++ Y := by simp
  have f2 : [X, [-I], Y].flatten = X ++ [-I] ++ Y := by simp
  have f3 : [X, Y].flatten = X ++ Y := by simp
  have F1 := Lib.hid f1; have F2 := Lib.hid f2; have F3 := Lib.hid f3
  have HN := Lib.hid hN; have HX := Lib.hid hX.symm; have HY := Lib.hid hY.symm; have HI := Lib.hid hI; have HH := Lib.hid H; have LX := Lib.hid lX; have LY := Lib.hid lY
  have RA := Lib.hid hra; have RB := Lib.hid hrb; have XA := Lib.hid hxa; have XB := Lib.hid hxb; have HWI := Lib.hid hwI
  clear hN hX hY hI H bX bY lX lY n1' n2' n3' f1 f2 f3 hra hrb hxa hxb hwI
  go_enter Try.func9, Try.ntmps9
  go_wp2_with fail
  refine (strands_calls n 6 w hn (by decide) (by decide)).mono ?_
  rw [HN.out]
  rintro e w' ⟨rfl, rfl⟩
  go_wp2_with fail
  refine (word_calls ((N0 : Int) - 1) a as1 5 _ RA.out XA.out (by omega) (by omega) (by decide)).mono ?_
  rintro e u1 ⟨x, rfl, ho, hb⟩
  rw [HX.out] at ho
  have sx := ho.isSl
  obtain ⟨x1, x2, x3, rfl, -⟩ := sx.cases
  have IX0 := ho.ints
  clear ho
  have IX := Lib.hid (IX0)
  replace RA := Lib.hid (RA.out.below hb)
  replace RB := Lib.hid (RB.out.below hb)
  have HB := Lib.hid hb
  clear hb
  go_wp2_with fail
  refine (word_calls ((N0 : Int) - 1) b bs1 5 _ RB.out XB.out (by omega) (by omega) (by decide)).mono ?_
  rintro e u2 ⟨y, rfl, ho, hb⟩
  rw [HY.out] at ho
  have sy := ho.isSl
  obtain ⟨y1, y2, y3, rfl, -⟩ := sy.cases
  have IY0 := ho.ints
  clear ho
  have IY := Lib.hid (IY0)
  replace RA := Lib.hid (RA.out.below hb)
  replace RB := Lib.hid (RB.out.below hb)
  replace IX := Lib.hid (IX.out.below hb)
  replace HB := Lib.hid (Below.chain HB.out hb)
  clear hb
  go_wp2_with fail
  refine (below_calls i ((N0 : Int) - 1) _ (by omega) (by omega) hi).mono ?_
  rintro e w' ⟨rfl, rfl⟩
  have hwI0 := HWI.out
  go_wp2_with fail
  clear hwI0
  obtain ⟨L1, hL1⟩ : ∃ A, A = World.alloc u2 (.cells #[.int .i64 (I)] 3) := ⟨_, rfl⟩
  have gL1 : Below u2.heap.size u2 L1 := by rw [hL1]; exact (Below.refl _ _).alloc (Nat.le_refl _) _
  have zL1 : L1.heap.size = u2.heap.size + 1 := by rw [hL1]; simp
  have lL1 : Ints L1 (.slice (some ⟨u2.heap.size, 0, none⟩) 1 1) [I] := by rw [hL1]; exact ints_lit [I] rfl rfl rfl (by simp)
  rw [← hL1]
  have gg1 := gL1
  have ix := IX.out.below gg1; have iy := IY.out.below gg1
  have rr := rowsV_3J ix lL1 iy
  rw [zL1] at rr
  refine (concat_calls _ _ [X, [I], Y] _ rr (by have := LX.out; have := LY.out; simp; omega)).mono ?_
  rw [F1.out]
  rintro e d1 ⟨q1, rfl, ho, hb⟩
  have hbb := Below.chain (Below.chain gg1 ((Below.refl _ _).alloc (Nat.le_refl _) _)) hb
  have sq := ho.isSl
  have IQ := Lib.hid ho.ints
  replace IX := Lib.hid (IX.out.below hbb); replace IY := Lib.hid (IY.out.below hbb); replace HB := Lib.hid (Below.chain HB.out hbb)
  clear ho hb hbb ix iy rr gL1 hL1 zL1 lL1 gg1
  go_wp2_with fail
  refine (J1.out _ _ IQ.out).mono ?_
  rintro e v1 ⟨p1, s, rfl, hs, t1, t2, t3, t4, hb⟩
  replace IX := Lib.hid (IX.out.below hb); replace IY := Lib.hid (IY.out.below hb); replace HB := Lib.hid (Below.chain HB.out hb)
  obtain ⟨a1, b1, c1, rfl, -⟩ := hs.isSl.cases
  have ss1 := hs.isSl
  have S1 := Lib.hid hs.ints
  have T1 := Lib.hid (And.intro t1 (And.intro t2 (And.intro t3 t4)))
  clear hs t1 t2 t3 t4 hb IQ
  go_wp2_with fail
  obtain ⟨A2, hA2⟩ : ∃ A, A = World.alloc v1 (.cells #[.int .i64 p1.low, .slice a1 b1 c1] 35) := ⟨_, rfl⟩
  have gA2 : Below v1.heap.size v1 A2 := by rw [hA2]; exact (Below.refl _ _).alloc (Nat.le_refl _) _
  have zA2 : A2.heap.size = v1.heap.size + 1 := by rw [hA2]; simp
  have pA2 : Pair A2 v1.heap.size 35 (.int .i64 p1.low) (.slice a1 b1 c1) := by rw [hA2]; exact pair_new _ _ _ _
  rw [← hA2]
  obtain ⟨L2, hL2⟩ : ∃ A, A = World.alloc A2 (.cells #[.int .i64 (-I)] 3) := ⟨_, rfl⟩
  have gL2 : Below A2.heap.size A2 L2 := by rw [hL2]; exact (Below.refl _ _).alloc (Nat.le_refl _) _
  have zL2 : L2.heap.size = A2.heap.size + 1 := by rw [hL2]; simp
  have lL2 : Ints L2 (.slice (some ⟨A2.heap.size, 0, none⟩) 1 1) [-I] := by rw [hL2]; exact ints_lit [-I] rfl rfl rfl (by simp)
  rw [← hL2]
  have gg2 := Below.chain gA2 gL2
  have ix := IX.out.below gg2; have iy := IY.out.below gg2
  have rr := rowsV_3J ix lL2 iy
  rw [zL2, zA2] at rr
  refine (concat_calls _ _ [X, [-I], Y] _ rr (by have := LX.out; have := LY.out; simp; omega)).mono ?_
  rw [F2.out]
  rintro e d2 ⟨q2, rfl, ho, hb⟩
  have hbb := Below.chain (Below.chain gg2 ((Below.refl _ _).alloc (Nat.le_refl _) _)) hb
  have sq := ho.isSl
  have IQ := Lib.hid ho.ints
  replace IX := Lib.hid (IX.out.below hbb); replace IY := Lib.hid (IY.out.below hbb); replace HB := Lib.hid (Below.chain HB.out hbb)
  have hbr := Below.chain (Below.chain gL2 ((Below.refl _ _).alloc (Nat.le_refl _) _)) hb
  have K1 := Lib.hid (pA2.below hbr); replace S1 := Lib.hid (S1.out.below hbb)
  clear hbr pA2
  clear ho hb hbb ix iy rr gA2 hA2 zA2 gL2 hL2 zL2 lL2 gg2
  go_wp2_with fail
  refine (J2.out _ _ IQ.out).mono ?_
  rintro e v2 ⟨p2, s, rfl, hs, t1, t2, t3, t4, hb⟩
  replace IX := Lib.hid (IX.out.below hb); replace IY := Lib.hid (IY.out.below hb); replace HB := Lib.hid (Below.chain HB.out hb)
  replace K1 := Lib.hid (K1.out.below hb); replace S1 := Lib.hid (S1.out.below hb)
  obtain ⟨a2, b2, c2, rfl, -⟩ := hs.isSl.cases
  have ss2 := hs.isSl
  have S2 := Lib.hid hs.ints
  have T2 := Lib.hid (And.intro t1 (And.intro t2 (And.intro t3 t4)))
  clear hs t1 t2 t3 t4 hb IQ
  go_wp2_with fail
  obtain ⟨A3, hA3⟩ : ∃ A, A = World.alloc v2 (.cells #[.int .i64 p2.low, .slice a2 b2 c2] 35) := ⟨_, rfl⟩
  have gA3 : Below v2.heap.size v2 A3 := by rw [hA3]; exact (Below.refl _ _).alloc (Nat.le_refl _) _
  have zA3 : A3.heap.size = v2.heap.size + 1 := by rw [hA3]; simp
  have pA3 : Pair A3 v2.heap.size 35 (.int .i64 p2.low) (.slice a2 b2 c2) := by rw [hA3]; exact pair_new _ _ _ _
  rw [← hA3]
  have gg3 := gA3
  have ix := IX.out.below gg3; have iy := IY.out.below gg3
  have rr := rowsV_2J ix iy
  rw [zA3] at rr
  refine (concat_calls _ _ [X, Y] _ rr (by have := LX.out; have := LY.out; simp; omega)).mono ?_
  rw [F3.out]
  rintro e d3 ⟨q3, rfl, ho, hb⟩
  have hbb := Below.chain (Below.chain gg3 ((Below.refl _ _).alloc (Nat.le_refl _) _)) hb
  have sq := ho.isSl
  have IQ := Lib.hid ho.ints
  replace IX := Lib.hid (IX.out.below hbb); replace IY := Lib.hid (IY.out.below hbb); replace HB := Lib.hid (Below.chain HB.out hbb)
  replace K1 := Lib.hid (K1.out.below hbb); replace S1 := Lib.hid (S1.out.below hbb)
  have hbr := Below.chain ((Below.refl _ _).alloc (Nat.le_refl _) _) hb
  have K2 := Lib.hid (pA3.below hbr); replace S2 := Lib.hid (S2.out.below hbb)
  clear hbr pA3
  clear ho hb hbb ix iy rr gA3 hA3 zA3 gg3
  go_wp2_with fail
  refine (J3.out _ _ IQ.out).mono ?_
  rintro e v3 ⟨p3, s, rfl, hs, t1, t2, t3, t4, hb⟩
  replace IX := Lib.hid (IX.out.below hb); replace IY := Lib.hid (IY.out.below hb); replace HB := Lib.hid (Below.chain HB.out hb)
  replace K1 := Lib.hid (K1.out.below hb); replace S1 := Lib.hid (S1.out.below hb)
  replace K2 := Lib.hid (K2.out.below hb); replace S2 := Lib.hid (S2.out.below hb)
  obtain ⟨a3, b3, c3, rfl, -⟩ := hs.isSl.cases
  have ss3 := hs.isSl
  have S3 := Lib.hid hs.ints
  have T3 := Lib.hid (And.intro t1 (And.intro t2 (And.intro t3 t4)))
  clear hs t1 t2 t3 t4 hb IQ
  obtain ⟨W0, hW0⟩ : ∃ A, A = World.alloc v3 (.cells #[.int .i64 p3.low, .slice a3 b3 c3] 35) := ⟨_, rfl⟩
  have g0 : Below v3.heap.size v3 W0 := by rw [hW0]; exact (Below.refl _ _).alloc (Nat.le_refl _) _
  have k3 : Pair W0 v3.heap.size 35 (.int .i64 p3.low) (.slice a3 b3 c3) := by rw [hW0]; exact pair_new _ _ _ _
  have K3 := Lib.hid k3; have hW0' := hW0.symm
  replace K1 := Lib.hid (K1.out.below g0); replace K2 := Lib.hid (K2.out.below g0)
  replace S1 := Lib.hid (S1.out.below g0); replace S2 := Lib.hid (S2.out.below g0); replace S3 := Lib.hid (S3.out.below g0)
  replace HB := Lib.hid (Below.chain HB.out g0)
  obtain ⟨o1, o2, o3, o4, o5⟩ := skein_all (X := X) (Y := Y) HH.out hI1 (L := 11) (by omega) (pw T1.out (by have := LX.out; have := LY.out; simp; omega)) (pw T2.out (by have := LX.out; have := LY.out; simp; omega)) (pw T3.out (by have := LX.out; have := LY.out; simp; omega)) T1.out.2.2.2 T2.out.2.2.2 T3.out.2.2.2
  have Q1 := Lib.hid (pok_jones (L := 11) (by omega) (pw T1.out (by have := LX.out; have := LY.out; simp; omega)).1 (pw T1.out (by have := LX.out; have := LY.out; simp; omega)).2.1 (pw T1.out (by have := LX.out; have := LY.out; simp; omega)).2.2)
  have Q2 := Lib.hid (pok_jones (L := 11) (by omega) (pw T2.out (by have := LX.out; have := LY.out; simp; omega)).1 (pw T2.out (by have := LX.out; have := LY.out; simp; omega)).2.1 (pw T2.out (by have := LX.out; have := LY.out; simp; omega)).2.2)
  have Q3 := Lib.hid (pok_jones (L := 11) (by omega) (pw T3.out (by have := LX.out; have := LY.out; simp; omega)).1 (pw T3.out (by have := LX.out; have := LY.out; simp; omega)).2.1 (pw T3.out (by have := LX.out; have := LY.out; simp; omega)).2.2)
  have O1 := Lib.hid o1; have O2 := Lib.hid o2; have O3 := Lib.hid o3; have O4 := Lib.hid o4; have O5 := Lib.hid o5
  obtain ⟨lhs, hlhs⟩ : ∃ l, padd (pmul lit4 p1) (pmul litm p2) (-1) = l := ⟨_, rfl⟩
  rw [hlhs] at O5 O3
  have HLH := Lib.hid hlhs
  clear hW0 g0 k3 o1 o2 o3 o4 o5 hlhs
  go_wp2_with fail
  clear hW0'
  go_upto_region 7 with (fail)
  go_cut [17, 18] from 68 to 79 (fun s17 s18 wc => ∃ (b : Nat) (v : Value), s17 = .pointer (some ⟨b, 0, none⟩) ∧ s18 = .int .i64 0 ∧ Pair wc b 35 (.int .i64 lhs.low) v ∧ Ints wc v lhs.c ∧ Below W0.heap.size W0 wc)
  case first =>
    have k1 := K1.out; have k2 := K2.out; have i1 := S1.out; have i2 := S2.out
    have hk1 := k1.lt; have hk2 := k2.lt
    refine wp_region_held_drew (S := fun W => W.cell? ⟨v1.heap.size, 0, none⟩ = some (.int .i64 p1.low) ∧ W.cell? ⟨v1.heap.size, 1, none⟩ = some (.slice a1 b1 c1) ∧ W.cell? ⟨v2.heap.size, 0, none⟩ = some (.int .i64 p2.low) ∧ W.cell? ⟨v2.heap.size, 1, none⟩ = some (.slice a2 b2 c2)) (by kernel_rfl) (⟨k1.cell0, k1.cell1, k2.cell0, k2.cell1⟩) (fun hHeld => ?_)
    have BEL : Below (World.heap W0).size W0 (World.drew W0) := (Below.refl _ _).drew
    have k1 := k1.below BEL
    have k2 := k2.below BEL
    have i1 := i1.below BEL
    have i2 := i2.below BEL
    obtain ⟨y0, hy0⟩ : ∃ y0, y0 = World.drew W0 := ⟨_, rfl⟩
    rw [← hy0] at BEL k1 k2 i1 i2 ⊢
    (try rw [← hy0] at hHeld)
    clear hy0
    refine' wpAnyH_take (i := 2) (oi := ?oiz1) (v := ?vz1) ?haz1 (by kernel_rfl) ?hfz1 ?hrz1 ?hQz1 (Or.inl ⟨?hwz1, ?hyz1⟩) (by assumption) ?restz1
    case haz1 => (simp only [List.getElem?_toArray, List.getElem?_cons_succ, List.getElem?_cons_zero]; exact rfl)
    case hQz1 => exact fun _ _ _ h => h
    case hfz1 => kernel_rfl
    case hrz1 => kernel_rfl
    case hwz1 => rfl
    case hyz1 => (intro w hSw; (try dsimp only at hSw); obtain ⟨e1, e2, e3, e4⟩ := hSw; go_simp; (try with_reducible rfl))
    try simp only [Act.put, List.setIfInBounds_toArray, List.set_cons_zero, List.set_cons_succ]
    refine' wpAnyH_take (i := 6) (oi := ?oiz2) (v := ?vz2) ?haz2 (by kernel_rfl) ?hfz2 ?hrz2 ?hQz2 (Or.inl ⟨?hwz2, ?hyz2⟩) (by assumption) ?restz2
    case haz2 => (simp only [List.getElem?_toArray, List.getElem?_cons_succ, List.getElem?_cons_zero]; exact rfl)
    case hQz2 => exact fun _ _ _ h => h
    case hfz2 => kernel_rfl
    case hrz2 => kernel_rfl
    case hwz2 => rfl
    case hyz2 => (intro w hSw; (try dsimp only at hSw); obtain ⟨e1, e2, e3, e4⟩ := hSw; go_simp; (try with_reducible rfl))
    try simp only [Act.put, List.setIfInBounds_toArray, List.set_cons_zero, List.set_cons_succ]
    refine wpAnyH_ready (rs := [0, 4, 12]) (by kernel_rfl) (by simp) ?_
    refine' AllReadyH.cons (o := ?oiz177) ?haz177 (fun K hK => ?stepz177) (AllReadyH.cons (o := ?oiz178) ?haz178 (fun K hK => ?stepz178) (AllReadyH.cons (o := ?oiz179) ?haz179 (fun K hK => ?stepz179) AllReadyH.nil))
    case haz177 => (simp only [List.getElem?_toArray, List.getElem?_cons_succ, List.getElem?_cons_zero]; exact rfl)
    case haz178 => (simp only [List.getElem?_toArray, List.getElem?_cons_succ, List.getElem?_cons_zero]; exact rfl)
    case haz179 => (simp only [List.getElem?_toArray, List.getElem?_cons_succ, List.getElem?_cons_zero]; exact rfl)
    case stepz177 =>
      go_simp
      obtain ⟨y1, hy1⟩ : ∃ y1, y1 = World.alloc y0 (.cells #[.int .i64 1] 3) := ⟨_, rfl⟩
      rw [← hy1]
      have sb : Below (World.heap y0).size y0 y1 := by rw [hy1]; exact (Below.refl _ _).alloc (Nat.le_refl _) _
      have LA : Ints y1 (.slice (some ⟨y0.heap.size, 0, none⟩) 1 1) [1] := by rw [hy1]; exact ints_lit [1] rfl rfl rfl (by simp)
      clear hy1
      replace k1 := k1.below sb
      replace k2 := k2.below sb
      replace i1 := i1.below sb
      replace i2 := i2.below sb
      replace BEL := Below.chain BEL sb
      clear sb
      refine hK.out _ _ (⟨k1.cell0, k1.cell1, k2.cell0, k2.cell1⟩) (fun hHeld => ?_)
      clear hK K
      try simp only [Act.put, List.setIfInBounds_toArray, List.set_cons_zero, List.set_cons_succ]
      refine' wpAnyH_take (i := 1) (oi := ?oiz3) (v := ?vz3) ?haz3 (by kernel_rfl) ?hfz3 ?hrz3 ?hQz3 (Or.inl ⟨?hwz3, ?hyz3⟩) (by assumption) ?restz3
      case haz3 => (simp only [List.getElem?_toArray, List.getElem?_cons_succ, List.getElem?_cons_zero]; exact rfl)
      case hQz3 => exact fun _ _ _ h => h
      case hfz3 => kernel_rfl
      case hrz3 => kernel_rfl
      case hwz3 => rfl
      case hyz3 => (intro w hSw; (try dsimp only at hSw); obtain ⟨e1, e2, e3, e4⟩ := hSw; go_simp; (try with_reducible rfl))
      try simp only [Act.put, List.setIfInBounds_toArray, List.set_cons_zero, List.set_cons_succ]
      refine wpAnyH_ready (rs := [3, 4, 12]) (by kernel_rfl) (by simp) ?_
      refine' AllReadyH.cons (o := ?oiz93) ?haz93 (fun K hK => ?stepz93) (AllReadyH.cons (o := ?oiz94) ?haz94 (fun K hK => ?stepz94) (AllReadyH.cons (o := ?oiz95) ?haz95 (fun K hK => ?stepz95) AllReadyH.nil))
      case haz93 => (simp only [List.getElem?_toArray, List.getElem?_cons_succ, List.getElem?_cons_zero]; exact rfl)
      case haz94 => (simp only [List.getElem?_toArray, List.getElem?_cons_succ, List.getElem?_cons_zero]; exact rfl)
      case haz95 => (simp only [List.getElem?_toArray, List.getElem?_cons_succ, List.getElem?_cons_zero]; exact rfl)
      case stepz93 =>
        go_simp
        go_at_call 41
        refine (mulK_calls lit4 p1 _ _ y1 LA i1 lit4_ok Q1.out O1.out).mono ?_
        rintro e y2 ⟨u1, rfl, h5, sb⟩
        have s5 := h5.isSl
        have U1 := h5.ints
        clear h5
        clear LA
        replace k1 := k1.below sb
        replace k2 := k2.below sb
        replace i1 := i1.below sb
        replace i2 := i2.below sb
        replace BEL := Below.chain BEL sb
        clear sb
        refine hK.out _ _ (⟨k1.cell0, k1.cell1, k2.cell0, k2.cell1⟩) (fun hHeld => ?_)
        clear hK K
        try simp only [Act.put, List.setIfInBounds_toArray, List.set_cons_zero, List.set_cons_succ]
        refine wpAnyH_ready (rs := [4, 12]) (by kernel_rfl) (by simp) ?_
        refine' AllReadyH.cons (o := ?oiz37) ?haz37 (fun K hK => ?stepz37) (AllReadyH.cons (o := ?oiz38) ?haz38 (fun K hK => ?stepz38) AllReadyH.nil)
        case haz37 => (simp only [List.getElem?_toArray, List.getElem?_cons_succ, List.getElem?_cons_zero]; exact rfl)
        case haz38 => (simp only [List.getElem?_toArray, List.getElem?_cons_succ, List.getElem?_cons_zero]; exact rfl)
        case stepz37 =>
          go_simp
          obtain ⟨y3, hy3⟩ : ∃ y3, y3 = World.alloc y2 (.cells #[.int .i64 1] 3) := ⟨_, rfl⟩
          rw [← hy3]
          have sb : Below (World.heap y2).size y2 y3 := by rw [hy3]; exact (Below.refl _ _).alloc (Nat.le_refl _) _
          have LB : Ints y3 (.slice (some ⟨y2.heap.size, 0, none⟩) 1 1) [1] := by rw [hy3]; exact ints_lit [1] rfl rfl rfl (by simp)
          clear hy3
          replace k1 := k1.below sb
          replace k2 := k2.below sb
          replace i1 := i1.below sb
          replace i2 := i2.below sb
          replace U1 := U1.below sb
          replace BEL := Below.chain BEL sb
          clear sb
          refine hK.out _ _ (⟨k1.cell0, k1.cell1, k2.cell0, k2.cell1⟩) (fun hHeld => ?_)
          clear hK K
          try simp only [Act.put, List.setIfInBounds_toArray, List.set_cons_zero, List.set_cons_succ]
          refine' wpAnyH_take (i := 5) (oi := ?oiz4) (v := ?vz4) ?haz4 (by kernel_rfl) ?hfz4 ?hrz4 ?hQz4 (Or.inl ⟨?hwz4, ?hyz4⟩) (by assumption) ?restz4
          case haz4 => (simp only [List.getElem?_toArray, List.getElem?_cons_succ, List.getElem?_cons_zero]; exact rfl)
          case hQz4 => exact fun _ _ _ h => h
          case hfz4 => kernel_rfl
          case hrz4 => kernel_rfl
          case hwz4 => rfl
          case hyz4 => (intro w hSw; (try dsimp only at hSw); obtain ⟨e1, e2, e3, e4⟩ := hSw; go_simp; (try with_reducible rfl))
          try simp only [Act.put, List.setIfInBounds_toArray, List.set_cons_zero, List.set_cons_succ]
          refine wpAnyH_ready (rs := [7, 12]) (by kernel_rfl) (by simp) ?_
          refine' AllReadyH.cons (o := ?oiz26) ?haz26 (fun K hK => ?stepz26) (AllReadyH.cons (o := ?oiz27) ?haz27 (fun K hK => ?stepz27) AllReadyH.nil)
          case haz26 => (simp only [List.getElem?_toArray, List.getElem?_cons_succ, List.getElem?_cons_zero]; exact rfl)
          case haz27 => (simp only [List.getElem?_toArray, List.getElem?_cons_succ, List.getElem?_cons_zero]; exact rfl)
          case stepz26 =>
            go_simp
            go_at_call 41
            refine (mulK_calls litm p2 _ _ y3 LB i2 litm_ok Q2.out O2.out).mono ?_
            rintro e y4 ⟨u2, rfl, h6, sb⟩
            have s6 := h6.isSl
            have U2 := h6.ints
            clear h6
            clear LB
            replace k1 := k1.below sb
            replace k2 := k2.below sb
            replace i1 := i1.below sb
            replace i2 := i2.below sb
            replace U1 := U1.below sb
            replace BEL := Below.chain BEL sb
            clear sb
            refine hK.out _ _ (⟨k1.cell0, k1.cell1, k2.cell0, k2.cell1⟩) (fun hHeld => ?_)
            clear hK K
            try simp only [Act.put, List.setIfInBounds_toArray, List.set_cons_zero, List.set_cons_succ]
            refine wpAnyH_ready (rs := [8, 12]) (by kernel_rfl) (by simp) ?_
            refine' AllReadyH.cons (o := ?oiz17) ?haz17 (fun K hK => ?stepz17) (AllReadyH.cons (o := ?oiz18) ?haz18 (fun K hK => ?stepz18) AllReadyH.nil)
            case haz17 => (simp only [List.getElem?_toArray, List.getElem?_cons_succ, List.getElem?_cons_zero]; exact rfl)
            case haz18 => (simp only [List.getElem?_toArray, List.getElem?_cons_succ, List.getElem?_cons_zero]; exact rfl)
            case stepz17 =>
              go_simp
              go_at_call 40
              refine (sub_calls (pmul lit4 p1) (pmul litm p2) u1 u2 y4 U1 U2 O1.out O2.out (by rw [HLH.out]; exact O3.out)).mono ?_
              rintro e y5 ⟨v9, rfl, h9, sb⟩
              rw [HLH.out] at h9 ⊢
              have T9 := h9.low (B' := W0.heap.size) BEL.size
              have s9 := T9.isSl
              obtain ⟨x1, x2, x3, rfl, -⟩ := s9.cases
              clear h9
              clear U1 U2
              replace k1 := k1.below sb
              replace k2 := k2.below sb
              replace i1 := i1.below sb
              replace i2 := i2.below sb
              replace BEL := Below.chain BEL sb
              clear sb
              refine hK.out _ _ (⟨k1.cell0, k1.cell1, k2.cell0, k2.cell1⟩) (fun hHeld => ?_)
              clear hK K
              try simp only [Act.put, List.setIfInBounds_toArray, List.set_cons_zero, List.set_cons_succ]
              refine' wpAnyH_take (i := 9) (oi := ?oiz5) (v := ?vz5) ?haz5 (by kernel_rfl) ?hfz5 ?hrz5 ?hQz5 (Or.inl ⟨?hwz5, ?hyz5⟩) (by assumption) ?restz5
              case haz5 => (simp only [List.getElem?_toArray, List.getElem?_cons_succ, List.getElem?_cons_zero]; exact rfl)
              case hQz5 => exact fun _ _ _ h => h
              case hfz5 => kernel_rfl
              case hrz5 => kernel_rfl
              case hwz5 => rfl
              case hyz5 => (intro w hSw; (try dsimp only at hSw); obtain ⟨e1, e2, e3, e4⟩ := hSw; go_simp; (try with_reducible rfl))
              try simp only [Act.put, List.setIfInBounds_toArray, List.set_cons_zero, List.set_cons_succ]
              refine' wpAnyH_take (i := 10) (oi := ?oiz6) (v := ?vz6) ?haz6 (by kernel_rfl) ?hfz6 ?hrz6 ?hQz6 (Or.inl ⟨?hwz6, ?hyz6⟩) (by assumption) ?restz6
              case haz6 => (simp only [List.getElem?_toArray, List.getElem?_cons_succ, List.getElem?_cons_zero]; exact rfl)
              case hQz6 => exact fun _ _ _ h => h
              case hfz6 => kernel_rfl
              case hrz6 => kernel_rfl
              case hwz6 => rfl
              case hyz6 => (intro w hSw; (try dsimp only at hSw); obtain ⟨e1, e2, e3, e4⟩ := hSw; go_simp; (try with_reducible rfl))
              try simp only [Act.put, List.setIfInBounds_toArray, List.set_cons_zero, List.set_cons_succ]
              refine' wpAnyH_take (i := 11) (oi := ?oiz7) (v := ?vz7) ?haz7 (by kernel_rfl) ?hfz7 ?hrz7 ?hQz7 (Or.inl ⟨?hwz7, ?hyz7⟩) (by assumption) ?restz7
              case haz7 => (simp only [List.getElem?_toArray, List.getElem?_cons_succ, List.getElem?_cons_zero]; exact rfl)
              case hQz7 => exact fun _ _ _ h => h
              case hfz7 => kernel_rfl
              case hrz7 => kernel_rfl
              case hwz7 => rfl
              case hyz7 => (intro w hSw; (try dsimp only at hSw); obtain ⟨e1, e2, e3, e4⟩ := hSw; go_simp; (try with_reducible rfl))
              try simp only [Act.put, List.setIfInBounds_toArray, List.set_cons_zero, List.set_cons_succ]
              refine wpAnyH_ready (rs := [12]) (by kernel_rfl) (by simp) ?_
              refine' AllReadyH.cons (o := ?oiz10) ?haz10 (fun K hK => ?stepz10) AllReadyH.nil
              case haz10 => (simp only [List.getElem?_toArray, List.getElem?_cons_succ, List.getElem?_cons_zero]; exact rfl)
              go_simp
              obtain ⟨y6, hy6⟩ : ∃ y6, y6 = World.alloc y5 (.cells #[.int .i64 0, .slice none 0 0] 35) := ⟨_, rfl⟩
              rw [← hy6]
              have sb : Below (World.heap y5).size y5 y6 := by rw [hy6]; exact (Below.refl _ _).alloc (Nat.le_refl _) _
              have BXL : Pair y6 y5.heap.size 35 (.int .i64 0) (.slice none 0 0) := by rw [hy6]; exact pair_new _ _ _ _
              have hbk : W0.heap.size ≤ y5.heap.size := BEL.size
              obtain ⟨bk, hbk0⟩ : ∃ bk, bk = y5.heap.size := ⟨_, rfl⟩
              rw [← hbk0] at BXL hbk ⊢
              clear hbk0
              clear hy6
              replace k1 := k1.below sb
              replace k2 := k2.below sb
              replace i1 := i1.below sb
              replace i2 := i2.below sb
              replace T9 := T9.below sb
              replace BEL := Below.chain BEL sb
              clear sb
              refine hK.out _ _ (⟨k1.cell0, k1.cell1, k2.cell0, k2.cell1⟩) (fun hHeld => ?_)
              clear hK K
              try simp only [Act.put, List.setIfInBounds_toArray, List.set_cons_zero, List.set_cons_succ]
              refine wpAnyH_ready (rs := [13]) (by kernel_rfl) (by simp) ?_
              refine' AllReadyH.cons (o := ?oiz9) ?haz9 (fun K hK => ?stepz9) AllReadyH.nil
              case haz9 => (simp only [List.getElem?_toArray, List.getElem?_cons_succ, List.getElem?_cons_zero]; exact rfl)
              have f0 := BXL.free0; have f1 := BXL.free1; have b0 := BXL.cell0; have b1 := BXL.cell1
              go_simp

              clear f0 f1 b0 b1
              have k19 := (k1.other (C := bk) (by omega) 0 (.int .i64 lhs.low)).other (C := bk) (by omega) 1 (.slice x1 x2 x3)
              have k29 := (k2.other (C := bk) (by omega) 0 (.int .i64 lhs.low)).other (C := bk) (by omega) 1 (.slice x1 x2 x3)
              refine hK.out _ _ (⟨k19.cell0, k19.cell1, k29.cell0, k29.cell1⟩) (fun hHeld => ?_)
              clear hK K
              try simp only [Act.put, List.setIfInBounds_toArray, List.set_cons_zero, List.set_cons_succ]
              refine' wpAnyH_take (i := 14) (oi := ?oiz8) (v := ?vz8) ?haz8 (by kernel_rfl) ?hfz8 ?hrz8 ?hQz8 (Or.inl ⟨?hwz8, ?hyz8⟩) (by assumption) ?restz8
              case haz8 => (simp only [List.getElem?_toArray, List.getElem?_cons_succ, List.getElem?_cons_zero]; exact rfl)
              case hQz8 => exact fun _ _ _ h => h
              case hfz8 => kernel_rfl
              case hrz8 => kernel_rfl
              case hwz8 => rfl
              case hyz8 => (intro w hSw; (try dsimp only at hSw); obtain ⟨e1, e2, e3, e4⟩ := hSw; go_simp; (try with_reducible rfl))
              try simp only [Act.put, List.setIfInBounds_toArray, List.set_cons_zero, List.set_cons_succ]
              refine wpAnyH_done (by kernel_rfl) ?_ _
              have hne7 : ∀ b, Go.Sl.row (.slice x1 x2 x3) = some b → bk ≠ b := Own.ne_of_type (by decide) T9 BXL
              go_wp2_with fail
              go_meet
              case rel => exact ⟨bk, _, rfl, rfl, BXL.set _ _, ((T9.setOther (fun b hb => hne7 b hb) _).setOther (fun b hb => hne7 b hb) _).ints, (BEL.setCell (p := ⟨bk, 0, none⟩) hbk _).setCell (p := ⟨bk, 1, none⟩) hbk _⟩
            case stepz18 =>
              go_simp
              obtain ⟨y7, hy7⟩ : ∃ y7, y7 = World.alloc y4 (.cells #[.int .i64 0, .slice none 0 0] 35) := ⟨_, rfl⟩
              rw [← hy7]
              have sb : Below (World.heap y4).size y4 y7 := by rw [hy7]; exact (Below.refl _ _).alloc (Nat.le_refl _) _
              have BXL : Pair y7 y4.heap.size 35 (.int .i64 0) (.slice none 0 0) := by rw [hy7]; exact pair_new _ _ _ _
              have hbk : W0.heap.size ≤ y4.heap.size := BEL.size
              obtain ⟨bk, hbk0⟩ : ∃ bk, bk = y4.heap.size := ⟨_, rfl⟩
              rw [← hbk0] at BXL hbk ⊢
              clear hbk0
              clear hy7
              replace k1 := k1.below sb
              replace k2 := k2.below sb
              replace i1 := i1.below sb
              replace i2 := i2.below sb
              replace U1 := U1.below sb
              replace U2 := U2.below sb
              replace BEL := Below.chain BEL sb
              clear sb
              refine hK.out _ _ (⟨k1.cell0, k1.cell1, k2.cell0, k2.cell1⟩) (fun hHeld => ?_)
              clear hK K
              try simp only [Act.put, List.setIfInBounds_toArray, List.set_cons_zero, List.set_cons_succ]
              refine wpAnyH_ready (rs := [8]) (by kernel_rfl) (by simp) ?_
              refine' AllReadyH.cons (o := ?oiz16) ?haz16 (fun K hK => ?stepz16) AllReadyH.nil
              case haz16 => (simp only [List.getElem?_toArray, List.getElem?_cons_succ, List.getElem?_cons_zero]; exact rfl)
              go_simp
              go_at_call 40
              refine (sub_calls (pmul lit4 p1) (pmul litm p2) u1 u2 y7 U1 U2 O1.out O2.out (by rw [HLH.out]; exact O3.out)).mono ?_
              rintro e y8 ⟨v9, rfl, h9, sb⟩
              rw [HLH.out] at h9 ⊢
              have T9 := h9.low (B' := W0.heap.size) BEL.size
              have s9 := T9.isSl
              obtain ⟨x1, x2, x3, rfl, -⟩ := s9.cases
              clear h9
              clear U1 U2
              replace k1 := k1.below sb
              replace k2 := k2.below sb
              replace i1 := i1.below sb
              replace i2 := i2.below sb
              replace BXL := BXL.below sb
              replace BEL := Below.chain BEL sb
              clear sb
              refine hK.out _ _ (⟨k1.cell0, k1.cell1, k2.cell0, k2.cell1⟩) (fun hHeld => ?_)
              clear hK K
              try simp only [Act.put, List.setIfInBounds_toArray, List.set_cons_zero, List.set_cons_succ]
              refine' wpAnyH_take (i := 9) (oi := ?oiz11) (v := ?vz11) ?haz11 (by kernel_rfl) ?hfz11 ?hrz11 ?hQz11 (Or.inl ⟨?hwz11, ?hyz11⟩) (by assumption) ?restz11
              case haz11 => (simp only [List.getElem?_toArray, List.getElem?_cons_succ, List.getElem?_cons_zero]; exact rfl)
              case hQz11 => exact fun _ _ _ h => h
              case hfz11 => kernel_rfl
              case hrz11 => kernel_rfl
              case hwz11 => rfl
              case hyz11 => (intro w hSw; (try dsimp only at hSw); obtain ⟨e1, e2, e3, e4⟩ := hSw; go_simp; (try with_reducible rfl))
              try simp only [Act.put, List.setIfInBounds_toArray, List.set_cons_zero, List.set_cons_succ]
              refine' wpAnyH_take (i := 10) (oi := ?oiz12) (v := ?vz12) ?haz12 (by kernel_rfl) ?hfz12 ?hrz12 ?hQz12 (Or.inl ⟨?hwz12, ?hyz12⟩) (by assumption) ?restz12
              case haz12 => (simp only [List.getElem?_toArray, List.getElem?_cons_succ, List.getElem?_cons_zero]; exact rfl)
              case hQz12 => exact fun _ _ _ h => h
              case hfz12 => kernel_rfl
              case hrz12 => kernel_rfl
              case hwz12 => rfl
              case hyz12 => (intro w hSw; (try dsimp only at hSw); obtain ⟨e1, e2, e3, e4⟩ := hSw; go_simp; (try with_reducible rfl))
              try simp only [Act.put, List.setIfInBounds_toArray, List.set_cons_zero, List.set_cons_succ]
              refine' wpAnyH_take (i := 11) (oi := ?oiz13) (v := ?vz13) ?haz13 (by kernel_rfl) ?hfz13 ?hrz13 ?hQz13 (Or.inl ⟨?hwz13, ?hyz13⟩) (by assumption) ?restz13
              case haz13 => (simp only [List.getElem?_toArray, List.getElem?_cons_succ, List.getElem?_cons_zero]; exact rfl)
              case hQz13 => exact fun _ _ _ h => h
              case hfz13 => kernel_rfl
              case hrz13 => kernel_rfl
              case hwz13 => rfl
              case hyz13 => (intro w hSw; (try dsimp only at hSw); obtain ⟨e1, e2, e3, e4⟩ := hSw; go_simp; (try with_reducible rfl))
              try simp only [Act.put, List.setIfInBounds_toArray, List.set_cons_zero, List.set_cons_succ]
              refine wpAnyH_ready (rs := [13]) (by kernel_rfl) (by simp) ?_
              refine' AllReadyH.cons (o := ?oiz15) ?haz15 (fun K hK => ?stepz15) AllReadyH.nil
              case haz15 => (simp only [List.getElem?_toArray, List.getElem?_cons_succ, List.getElem?_cons_zero]; exact rfl)
              have f0 := BXL.free0; have f1 := BXL.free1; have b0 := BXL.cell0; have b1 := BXL.cell1
              go_simp

              clear f0 f1 b0 b1
              have k19 := (k1.other (C := bk) (by omega) 0 (.int .i64 lhs.low)).other (C := bk) (by omega) 1 (.slice x1 x2 x3)
              have k29 := (k2.other (C := bk) (by omega) 0 (.int .i64 lhs.low)).other (C := bk) (by omega) 1 (.slice x1 x2 x3)
              refine hK.out _ _ (⟨k19.cell0, k19.cell1, k29.cell0, k29.cell1⟩) (fun hHeld => ?_)
              clear hK K
              try simp only [Act.put, List.setIfInBounds_toArray, List.set_cons_zero, List.set_cons_succ]
              refine' wpAnyH_take (i := 14) (oi := ?oiz14) (v := ?vz14) ?haz14 (by kernel_rfl) ?hfz14 ?hrz14 ?hQz14 (Or.inl ⟨?hwz14, ?hyz14⟩) (by assumption) ?restz14
              case haz14 => (simp only [List.getElem?_toArray, List.getElem?_cons_succ, List.getElem?_cons_zero]; exact rfl)
              case hQz14 => exact fun _ _ _ h => h
              case hfz14 => kernel_rfl
              case hrz14 => kernel_rfl
              case hwz14 => rfl
              case hyz14 => (intro w hSw; (try dsimp only at hSw); obtain ⟨e1, e2, e3, e4⟩ := hSw; go_simp; (try with_reducible rfl))
              try simp only [Act.put, List.setIfInBounds_toArray, List.set_cons_zero, List.set_cons_succ]
              refine wpAnyH_done (by kernel_rfl) ?_ _
              have hne7 : ∀ b, Go.Sl.row (.slice x1 x2 x3) = some b → bk ≠ b := Own.ne_of_type (by decide) T9 BXL
              go_wp2_with fail
              go_meet
              case rel => exact ⟨bk, _, rfl, rfl, BXL.set _ _, ((T9.setOther (fun b hb => hne7 b hb) _).setOther (fun b hb => hne7 b hb) _).ints, (BEL.setCell (p := ⟨bk, 0, none⟩) hbk _).setCell (p := ⟨bk, 1, none⟩) hbk _⟩
          case stepz27 =>
            go_simp
            obtain ⟨y9, hy9⟩ : ∃ y9, y9 = World.alloc y3 (.cells #[.int .i64 0, .slice none 0 0] 35) := ⟨_, rfl⟩
            rw [← hy9]
            have sb : Below (World.heap y3).size y3 y9 := by rw [hy9]; exact (Below.refl _ _).alloc (Nat.le_refl _) _
            have BXL : Pair y9 y3.heap.size 35 (.int .i64 0) (.slice none 0 0) := by rw [hy9]; exact pair_new _ _ _ _
            have hbk : W0.heap.size ≤ y3.heap.size := BEL.size
            obtain ⟨bk, hbk0⟩ : ∃ bk, bk = y3.heap.size := ⟨_, rfl⟩
            rw [← hbk0] at BXL hbk ⊢
            clear hbk0
            clear hy9
            replace k1 := k1.below sb
            replace k2 := k2.below sb
            replace i1 := i1.below sb
            replace i2 := i2.below sb
            replace U1 := U1.below sb
            replace LB := LB.below sb
            replace BEL := Below.chain BEL sb
            clear sb
            refine hK.out _ _ (⟨k1.cell0, k1.cell1, k2.cell0, k2.cell1⟩) (fun hHeld => ?_)
            clear hK K
            try simp only [Act.put, List.setIfInBounds_toArray, List.set_cons_zero, List.set_cons_succ]
            refine wpAnyH_ready (rs := [7]) (by kernel_rfl) (by simp) ?_
            refine' AllReadyH.cons (o := ?oiz25) ?haz25 (fun K hK => ?stepz25) AllReadyH.nil
            case haz25 => (simp only [List.getElem?_toArray, List.getElem?_cons_succ, List.getElem?_cons_zero]; exact rfl)
            go_simp
            go_at_call 41
            refine (mulK_calls litm p2 _ _ y9 LB i2 litm_ok Q2.out O2.out).mono ?_
            rintro e y10 ⟨u2, rfl, h6, sb⟩
            have s6 := h6.isSl
            have U2 := h6.ints
            clear h6
            clear LB
            replace k1 := k1.below sb
            replace k2 := k2.below sb
            replace i1 := i1.below sb
            replace i2 := i2.below sb
            replace U1 := U1.below sb
            replace BXL := BXL.below sb
            replace BEL := Below.chain BEL sb
            clear sb
            refine hK.out _ _ (⟨k1.cell0, k1.cell1, k2.cell0, k2.cell1⟩) (fun hHeld => ?_)
            clear hK K
            try simp only [Act.put, List.setIfInBounds_toArray, List.set_cons_zero, List.set_cons_succ]
            refine wpAnyH_ready (rs := [8]) (by kernel_rfl) (by simp) ?_
            refine' AllReadyH.cons (o := ?oiz24) ?haz24 (fun K hK => ?stepz24) AllReadyH.nil
            case haz24 => (simp only [List.getElem?_toArray, List.getElem?_cons_succ, List.getElem?_cons_zero]; exact rfl)
            go_simp
            go_at_call 40
            refine (sub_calls (pmul lit4 p1) (pmul litm p2) u1 u2 y10 U1 U2 O1.out O2.out (by rw [HLH.out]; exact O3.out)).mono ?_
            rintro e y11 ⟨v9, rfl, h9, sb⟩
            rw [HLH.out] at h9 ⊢
            have T9 := h9.low (B' := W0.heap.size) BEL.size
            have s9 := T9.isSl
            obtain ⟨x1, x2, x3, rfl, -⟩ := s9.cases
            clear h9
            clear U1 U2
            replace k1 := k1.below sb
            replace k2 := k2.below sb
            replace i1 := i1.below sb
            replace i2 := i2.below sb
            replace BXL := BXL.below sb
            replace BEL := Below.chain BEL sb
            clear sb
            refine hK.out _ _ (⟨k1.cell0, k1.cell1, k2.cell0, k2.cell1⟩) (fun hHeld => ?_)
            clear hK K
            try simp only [Act.put, List.setIfInBounds_toArray, List.set_cons_zero, List.set_cons_succ]
            refine' wpAnyH_take (i := 9) (oi := ?oiz19) (v := ?vz19) ?haz19 (by kernel_rfl) ?hfz19 ?hrz19 ?hQz19 (Or.inl ⟨?hwz19, ?hyz19⟩) (by assumption) ?restz19
            case haz19 => (simp only [List.getElem?_toArray, List.getElem?_cons_succ, List.getElem?_cons_zero]; exact rfl)
            case hQz19 => exact fun _ _ _ h => h
            case hfz19 => kernel_rfl
            case hrz19 => kernel_rfl
            case hwz19 => rfl
            case hyz19 => (intro w hSw; (try dsimp only at hSw); obtain ⟨e1, e2, e3, e4⟩ := hSw; go_simp; (try with_reducible rfl))
            try simp only [Act.put, List.setIfInBounds_toArray, List.set_cons_zero, List.set_cons_succ]
            refine' wpAnyH_take (i := 10) (oi := ?oiz20) (v := ?vz20) ?haz20 (by kernel_rfl) ?hfz20 ?hrz20 ?hQz20 (Or.inl ⟨?hwz20, ?hyz20⟩) (by assumption) ?restz20
            case haz20 => (simp only [List.getElem?_toArray, List.getElem?_cons_succ, List.getElem?_cons_zero]; exact rfl)
            case hQz20 => exact fun _ _ _ h => h
            case hfz20 => kernel_rfl
            case hrz20 => kernel_rfl
            case hwz20 => rfl
            case hyz20 => (intro w hSw; (try dsimp only at hSw); obtain ⟨e1, e2, e3, e4⟩ := hSw; go_simp; (try with_reducible rfl))
            try simp only [Act.put, List.setIfInBounds_toArray, List.set_cons_zero, List.set_cons_succ]
            refine' wpAnyH_take (i := 11) (oi := ?oiz21) (v := ?vz21) ?haz21 (by kernel_rfl) ?hfz21 ?hrz21 ?hQz21 (Or.inl ⟨?hwz21, ?hyz21⟩) (by assumption) ?restz21
            case haz21 => (simp only [List.getElem?_toArray, List.getElem?_cons_succ, List.getElem?_cons_zero]; exact rfl)
            case hQz21 => exact fun _ _ _ h => h
            case hfz21 => kernel_rfl
            case hrz21 => kernel_rfl
            case hwz21 => rfl
            case hyz21 => (intro w hSw; (try dsimp only at hSw); obtain ⟨e1, e2, e3, e4⟩ := hSw; go_simp; (try with_reducible rfl))
            try simp only [Act.put, List.setIfInBounds_toArray, List.set_cons_zero, List.set_cons_succ]
            refine wpAnyH_ready (rs := [13]) (by kernel_rfl) (by simp) ?_
            refine' AllReadyH.cons (o := ?oiz23) ?haz23 (fun K hK => ?stepz23) AllReadyH.nil
            case haz23 => (simp only [List.getElem?_toArray, List.getElem?_cons_succ, List.getElem?_cons_zero]; exact rfl)
            have f0 := BXL.free0; have f1 := BXL.free1; have b0 := BXL.cell0; have b1 := BXL.cell1
            go_simp

            clear f0 f1 b0 b1
            have k19 := (k1.other (C := bk) (by omega) 0 (.int .i64 lhs.low)).other (C := bk) (by omega) 1 (.slice x1 x2 x3)
            have k29 := (k2.other (C := bk) (by omega) 0 (.int .i64 lhs.low)).other (C := bk) (by omega) 1 (.slice x1 x2 x3)
            refine hK.out _ _ (⟨k19.cell0, k19.cell1, k29.cell0, k29.cell1⟩) (fun hHeld => ?_)
            clear hK K
            try simp only [Act.put, List.setIfInBounds_toArray, List.set_cons_zero, List.set_cons_succ]
            refine' wpAnyH_take (i := 14) (oi := ?oiz22) (v := ?vz22) ?haz22 (by kernel_rfl) ?hfz22 ?hrz22 ?hQz22 (Or.inl ⟨?hwz22, ?hyz22⟩) (by assumption) ?restz22
            case haz22 => (simp only [List.getElem?_toArray, List.getElem?_cons_succ, List.getElem?_cons_zero]; exact rfl)
            case hQz22 => exact fun _ _ _ h => h
            case hfz22 => kernel_rfl
            case hrz22 => kernel_rfl
            case hwz22 => rfl
            case hyz22 => (intro w hSw; (try dsimp only at hSw); obtain ⟨e1, e2, e3, e4⟩ := hSw; go_simp; (try with_reducible rfl))
            try simp only [Act.put, List.setIfInBounds_toArray, List.set_cons_zero, List.set_cons_succ]
            refine wpAnyH_done (by kernel_rfl) ?_ _
            have hne7 : ∀ b, Go.Sl.row (.slice x1 x2 x3) = some b → bk ≠ b := Own.ne_of_type (by decide) T9 BXL
            go_wp2_with fail
            go_meet
            case rel => exact ⟨bk, _, rfl, rfl, BXL.set _ _, ((T9.setOther (fun b hb => hne7 b hb) _).setOther (fun b hb => hne7 b hb) _).ints, (BEL.setCell (p := ⟨bk, 0, none⟩) hbk _).setCell (p := ⟨bk, 1, none⟩) hbk _⟩
        case stepz38 =>
          go_simp
          obtain ⟨y12, hy12⟩ : ∃ y12, y12 = World.alloc y2 (.cells #[.int .i64 0, .slice none 0 0] 35) := ⟨_, rfl⟩
          rw [← hy12]
          have sb : Below (World.heap y2).size y2 y12 := by rw [hy12]; exact (Below.refl _ _).alloc (Nat.le_refl _) _
          have BXL : Pair y12 y2.heap.size 35 (.int .i64 0) (.slice none 0 0) := by rw [hy12]; exact pair_new _ _ _ _
          have hbk : W0.heap.size ≤ y2.heap.size := BEL.size
          obtain ⟨bk, hbk0⟩ : ∃ bk, bk = y2.heap.size := ⟨_, rfl⟩
          rw [← hbk0] at BXL hbk ⊢
          clear hbk0
          clear hy12
          replace k1 := k1.below sb
          replace k2 := k2.below sb
          replace i1 := i1.below sb
          replace i2 := i2.below sb
          replace U1 := U1.below sb
          replace BEL := Below.chain BEL sb
          clear sb
          refine hK.out _ _ (⟨k1.cell0, k1.cell1, k2.cell0, k2.cell1⟩) (fun hHeld => ?_)
          clear hK K
          try simp only [Act.put, List.setIfInBounds_toArray, List.set_cons_zero, List.set_cons_succ]
          refine wpAnyH_ready (rs := [4]) (by kernel_rfl) (by simp) ?_
          refine' AllReadyH.cons (o := ?oiz36) ?haz36 (fun K hK => ?stepz36) AllReadyH.nil
          case haz36 => (simp only [List.getElem?_toArray, List.getElem?_cons_succ, List.getElem?_cons_zero]; exact rfl)
          go_simp
          obtain ⟨y13, hy13⟩ : ∃ y13, y13 = World.alloc y12 (.cells #[.int .i64 1] 3) := ⟨_, rfl⟩
          rw [← hy13]
          have sb : Below (World.heap y12).size y12 y13 := by rw [hy13]; exact (Below.refl _ _).alloc (Nat.le_refl _) _
          have LB : Ints y13 (.slice (some ⟨y12.heap.size, 0, none⟩) 1 1) [1] := by rw [hy13]; exact ints_lit [1] rfl rfl rfl (by simp)
          clear hy13
          replace k1 := k1.below sb
          replace k2 := k2.below sb
          replace i1 := i1.below sb
          replace i2 := i2.below sb
          replace U1 := U1.below sb
          replace BXL := BXL.below sb
          replace BEL := Below.chain BEL sb
          clear sb
          refine hK.out _ _ (⟨k1.cell0, k1.cell1, k2.cell0, k2.cell1⟩) (fun hHeld => ?_)
          clear hK K
          try simp only [Act.put, List.setIfInBounds_toArray, List.set_cons_zero, List.set_cons_succ]
          refine' wpAnyH_take (i := 5) (oi := ?oiz28) (v := ?vz28) ?haz28 (by kernel_rfl) ?hfz28 ?hrz28 ?hQz28 (Or.inl ⟨?hwz28, ?hyz28⟩) (by assumption) ?restz28
          case haz28 => (simp only [List.getElem?_toArray, List.getElem?_cons_succ, List.getElem?_cons_zero]; exact rfl)
          case hQz28 => exact fun _ _ _ h => h
          case hfz28 => kernel_rfl
          case hrz28 => kernel_rfl
          case hwz28 => rfl
          case hyz28 => (intro w hSw; (try dsimp only at hSw); obtain ⟨e1, e2, e3, e4⟩ := hSw; go_simp; (try with_reducible rfl))
          try simp only [Act.put, List.setIfInBounds_toArray, List.set_cons_zero, List.set_cons_succ]
          refine wpAnyH_ready (rs := [7]) (by kernel_rfl) (by simp) ?_
          refine' AllReadyH.cons (o := ?oiz35) ?haz35 (fun K hK => ?stepz35) AllReadyH.nil
          case haz35 => (simp only [List.getElem?_toArray, List.getElem?_cons_succ, List.getElem?_cons_zero]; exact rfl)
          go_simp
          go_at_call 41
          refine (mulK_calls litm p2 _ _ y13 LB i2 litm_ok Q2.out O2.out).mono ?_
          rintro e y14 ⟨u2, rfl, h6, sb⟩
          have s6 := h6.isSl
          have U2 := h6.ints
          clear h6
          clear LB
          replace k1 := k1.below sb
          replace k2 := k2.below sb
          replace i1 := i1.below sb
          replace i2 := i2.below sb
          replace U1 := U1.below sb
          replace BXL := BXL.below sb
          replace BEL := Below.chain BEL sb
          clear sb
          refine hK.out _ _ (⟨k1.cell0, k1.cell1, k2.cell0, k2.cell1⟩) (fun hHeld => ?_)
          clear hK K
          try simp only [Act.put, List.setIfInBounds_toArray, List.set_cons_zero, List.set_cons_succ]
          refine wpAnyH_ready (rs := [8]) (by kernel_rfl) (by simp) ?_
          refine' AllReadyH.cons (o := ?oiz34) ?haz34 (fun K hK => ?stepz34) AllReadyH.nil
          case haz34 => (simp only [List.getElem?_toArray, List.getElem?_cons_succ, List.getElem?_cons_zero]; exact rfl)
          go_simp
          go_at_call 40
          refine (sub_calls (pmul lit4 p1) (pmul litm p2) u1 u2 y14 U1 U2 O1.out O2.out (by rw [HLH.out]; exact O3.out)).mono ?_
          rintro e y15 ⟨v9, rfl, h9, sb⟩
          rw [HLH.out] at h9 ⊢
          have T9 := h9.low (B' := W0.heap.size) BEL.size
          have s9 := T9.isSl
          obtain ⟨x1, x2, x3, rfl, -⟩ := s9.cases
          clear h9
          clear U1 U2
          replace k1 := k1.below sb
          replace k2 := k2.below sb
          replace i1 := i1.below sb
          replace i2 := i2.below sb
          replace BXL := BXL.below sb
          replace BEL := Below.chain BEL sb
          clear sb
          refine hK.out _ _ (⟨k1.cell0, k1.cell1, k2.cell0, k2.cell1⟩) (fun hHeld => ?_)
          clear hK K
          try simp only [Act.put, List.setIfInBounds_toArray, List.set_cons_zero, List.set_cons_succ]
          refine' wpAnyH_take (i := 9) (oi := ?oiz29) (v := ?vz29) ?haz29 (by kernel_rfl) ?hfz29 ?hrz29 ?hQz29 (Or.inl ⟨?hwz29, ?hyz29⟩) (by assumption) ?restz29
          case haz29 => (simp only [List.getElem?_toArray, List.getElem?_cons_succ, List.getElem?_cons_zero]; exact rfl)
          case hQz29 => exact fun _ _ _ h => h
          case hfz29 => kernel_rfl
          case hrz29 => kernel_rfl
          case hwz29 => rfl
          case hyz29 => (intro w hSw; (try dsimp only at hSw); obtain ⟨e1, e2, e3, e4⟩ := hSw; go_simp; (try with_reducible rfl))
          try simp only [Act.put, List.setIfInBounds_toArray, List.set_cons_zero, List.set_cons_succ]
          refine' wpAnyH_take (i := 10) (oi := ?oiz30) (v := ?vz30) ?haz30 (by kernel_rfl) ?hfz30 ?hrz30 ?hQz30 (Or.inl ⟨?hwz30, ?hyz30⟩) (by assumption) ?restz30
          case haz30 => (simp only [List.getElem?_toArray, List.getElem?_cons_succ, List.getElem?_cons_zero]; exact rfl)
          case hQz30 => exact fun _ _ _ h => h
          case hfz30 => kernel_rfl
          case hrz30 => kernel_rfl
          case hwz30 => rfl
          case hyz30 => (intro w hSw; (try dsimp only at hSw); obtain ⟨e1, e2, e3, e4⟩ := hSw; go_simp; (try with_reducible rfl))
          try simp only [Act.put, List.setIfInBounds_toArray, List.set_cons_zero, List.set_cons_succ]
          refine' wpAnyH_take (i := 11) (oi := ?oiz31) (v := ?vz31) ?haz31 (by kernel_rfl) ?hfz31 ?hrz31 ?hQz31 (Or.inl ⟨?hwz31, ?hyz31⟩) (by assumption) ?restz31
          case haz31 => (simp only [List.getElem?_toArray, List.getElem?_cons_succ, List.getElem?_cons_zero]; exact rfl)
          case hQz31 => exact fun _ _ _ h => h
          case hfz31 => kernel_rfl
          case hrz31 => kernel_rfl
          case hwz31 => rfl
          case hyz31 => (intro w hSw; (try dsimp only at hSw); obtain ⟨e1, e2, e3, e4⟩ := hSw; go_simp; (try with_reducible rfl))
          try simp only [Act.put, List.setIfInBounds_toArray, List.set_cons_zero, List.set_cons_succ]
          refine wpAnyH_ready (rs := [13]) (by kernel_rfl) (by simp) ?_
          refine' AllReadyH.cons (o := ?oiz33) ?haz33 (fun K hK => ?stepz33) AllReadyH.nil
          case haz33 => (simp only [List.getElem?_toArray, List.getElem?_cons_succ, List.getElem?_cons_zero]; exact rfl)
          have f0 := BXL.free0; have f1 := BXL.free1; have b0 := BXL.cell0; have b1 := BXL.cell1
          go_simp

          clear f0 f1 b0 b1
          have k19 := (k1.other (C := bk) (by omega) 0 (.int .i64 lhs.low)).other (C := bk) (by omega) 1 (.slice x1 x2 x3)
          have k29 := (k2.other (C := bk) (by omega) 0 (.int .i64 lhs.low)).other (C := bk) (by omega) 1 (.slice x1 x2 x3)
          refine hK.out _ _ (⟨k19.cell0, k19.cell1, k29.cell0, k29.cell1⟩) (fun hHeld => ?_)
          clear hK K
          try simp only [Act.put, List.setIfInBounds_toArray, List.set_cons_zero, List.set_cons_succ]
          refine' wpAnyH_take (i := 14) (oi := ?oiz32) (v := ?vz32) ?haz32 (by kernel_rfl) ?hfz32 ?hrz32 ?hQz32 (Or.inl ⟨?hwz32, ?hyz32⟩) (by assumption) ?restz32
          case haz32 => (simp only [List.getElem?_toArray, List.getElem?_cons_succ, List.getElem?_cons_zero]; exact rfl)
          case hQz32 => exact fun _ _ _ h => h
          case hfz32 => kernel_rfl
          case hrz32 => kernel_rfl
          case hwz32 => rfl
          case hyz32 => (intro w hSw; (try dsimp only at hSw); obtain ⟨e1, e2, e3, e4⟩ := hSw; go_simp; (try with_reducible rfl))
          try simp only [Act.put, List.setIfInBounds_toArray, List.set_cons_zero, List.set_cons_succ]
          refine wpAnyH_done (by kernel_rfl) ?_ _
          have hne7 : ∀ b, Go.Sl.row (.slice x1 x2 x3) = some b → bk ≠ b := Own.ne_of_type (by decide) T9 BXL
          go_wp2_with fail
          go_meet
          case rel => exact ⟨bk, _, rfl, rfl, BXL.set _ _, ((T9.setOther (fun b hb => hne7 b hb) _).setOther (fun b hb => hne7 b hb) _).ints, (BEL.setCell (p := ⟨bk, 0, none⟩) hbk _).setCell (p := ⟨bk, 1, none⟩) hbk _⟩
      case stepz94 =>
        go_simp
        obtain ⟨y16, hy16⟩ : ∃ y16, y16 = World.alloc y1 (.cells #[.int .i64 1] 3) := ⟨_, rfl⟩
        rw [← hy16]
        have sb : Below (World.heap y1).size y1 y16 := by rw [hy16]; exact (Below.refl _ _).alloc (Nat.le_refl _) _
        have LB : Ints y16 (.slice (some ⟨y1.heap.size, 0, none⟩) 1 1) [1] := by rw [hy16]; exact ints_lit [1] rfl rfl rfl (by simp)
        clear hy16
        replace k1 := k1.below sb
        replace k2 := k2.below sb
        replace i1 := i1.below sb
        replace i2 := i2.below sb
        replace LA := LA.below sb
        replace BEL := Below.chain BEL sb
        clear sb
        refine hK.out _ _ (⟨k1.cell0, k1.cell1, k2.cell0, k2.cell1⟩) (fun hHeld => ?_)
        clear hK K
        try simp only [Act.put, List.setIfInBounds_toArray, List.set_cons_zero, List.set_cons_succ]
        refine' wpAnyH_take (i := 5) (oi := ?oiz39) (v := ?vz39) ?haz39 (by kernel_rfl) ?hfz39 ?hrz39 ?hQz39 (Or.inl ⟨?hwz39, ?hyz39⟩) (by assumption) ?restz39
        case haz39 => (simp only [List.getElem?_toArray, List.getElem?_cons_succ, List.getElem?_cons_zero]; exact rfl)
        case hQz39 => exact fun _ _ _ h => h
        case hfz39 => kernel_rfl
        case hrz39 => kernel_rfl
        case hwz39 => rfl
        case hyz39 => (intro w hSw; (try dsimp only at hSw); obtain ⟨e1, e2, e3, e4⟩ := hSw; go_simp; (try with_reducible rfl))
        try simp only [Act.put, List.setIfInBounds_toArray, List.set_cons_zero, List.set_cons_succ]
        refine wpAnyH_ready (rs := [3, 12]) (by kernel_rfl) (by simp) ?_
        refine' AllReadyH.cons (o := ?oiz71) ?haz71 (fun K hK => ?stepz71) (AllReadyH.cons (o := ?oiz72) ?haz72 (fun K hK => ?stepz72) AllReadyH.nil)
        case haz71 => (simp only [List.getElem?_toArray, List.getElem?_cons_succ, List.getElem?_cons_zero]; exact rfl)
        case haz72 => (simp only [List.getElem?_toArray, List.getElem?_cons_succ, List.getElem?_cons_zero]; exact rfl)
        case stepz71 =>
          go_simp
          go_at_call 41
          refine (mulK_calls lit4 p1 _ _ y16 LA i1 lit4_ok Q1.out O1.out).mono ?_
          rintro e y17 ⟨u1, rfl, h5, sb⟩
          have s5 := h5.isSl
          have U1 := h5.ints
          clear h5
          clear LA
          replace k1 := k1.below sb
          replace k2 := k2.below sb
          replace i1 := i1.below sb
          replace i2 := i2.below sb
          replace LB := LB.below sb
          replace BEL := Below.chain BEL sb
          clear sb
          refine hK.out _ _ (⟨k1.cell0, k1.cell1, k2.cell0, k2.cell1⟩) (fun hHeld => ?_)
          clear hK K
          try simp only [Act.put, List.setIfInBounds_toArray, List.set_cons_zero, List.set_cons_succ]
          refine wpAnyH_ready (rs := [7, 12]) (by kernel_rfl) (by simp) ?_
          refine' AllReadyH.cons (o := ?oiz61) ?haz61 (fun K hK => ?stepz61) (AllReadyH.cons (o := ?oiz62) ?haz62 (fun K hK => ?stepz62) AllReadyH.nil)
          case haz61 => (simp only [List.getElem?_toArray, List.getElem?_cons_succ, List.getElem?_cons_zero]; exact rfl)
          case haz62 => (simp only [List.getElem?_toArray, List.getElem?_cons_succ, List.getElem?_cons_zero]; exact rfl)
          case stepz61 =>
            go_simp
            go_at_call 41
            refine (mulK_calls litm p2 _ _ y17 LB i2 litm_ok Q2.out O2.out).mono ?_
            rintro e y18 ⟨u2, rfl, h6, sb⟩
            have s6 := h6.isSl
            have U2 := h6.ints
            clear h6
            clear LB
            replace k1 := k1.below sb
            replace k2 := k2.below sb
            replace i1 := i1.below sb
            replace i2 := i2.below sb
            replace U1 := U1.below sb
            replace BEL := Below.chain BEL sb
            clear sb
            refine hK.out _ _ (⟨k1.cell0, k1.cell1, k2.cell0, k2.cell1⟩) (fun hHeld => ?_)
            clear hK K
            try simp only [Act.put, List.setIfInBounds_toArray, List.set_cons_zero, List.set_cons_succ]
            refine wpAnyH_ready (rs := [8, 12]) (by kernel_rfl) (by simp) ?_
            refine' AllReadyH.cons (o := ?oiz52) ?haz52 (fun K hK => ?stepz52) (AllReadyH.cons (o := ?oiz53) ?haz53 (fun K hK => ?stepz53) AllReadyH.nil)
            case haz52 => (simp only [List.getElem?_toArray, List.getElem?_cons_succ, List.getElem?_cons_zero]; exact rfl)
            case haz53 => (simp only [List.getElem?_toArray, List.getElem?_cons_succ, List.getElem?_cons_zero]; exact rfl)
            case stepz52 =>
              go_simp
              go_at_call 40
              refine (sub_calls (pmul lit4 p1) (pmul litm p2) u1 u2 y18 U1 U2 O1.out O2.out (by rw [HLH.out]; exact O3.out)).mono ?_
              rintro e y19 ⟨v9, rfl, h9, sb⟩
              rw [HLH.out] at h9 ⊢
              have T9 := h9.low (B' := W0.heap.size) BEL.size
              have s9 := T9.isSl
              obtain ⟨x1, x2, x3, rfl, -⟩ := s9.cases
              clear h9
              clear U1 U2
              replace k1 := k1.below sb
              replace k2 := k2.below sb
              replace i1 := i1.below sb
              replace i2 := i2.below sb
              replace BEL := Below.chain BEL sb
              clear sb
              refine hK.out _ _ (⟨k1.cell0, k1.cell1, k2.cell0, k2.cell1⟩) (fun hHeld => ?_)
              clear hK K
              try simp only [Act.put, List.setIfInBounds_toArray, List.set_cons_zero, List.set_cons_succ]
              refine' wpAnyH_take (i := 9) (oi := ?oiz40) (v := ?vz40) ?haz40 (by kernel_rfl) ?hfz40 ?hrz40 ?hQz40 (Or.inl ⟨?hwz40, ?hyz40⟩) (by assumption) ?restz40
              case haz40 => (simp only [List.getElem?_toArray, List.getElem?_cons_succ, List.getElem?_cons_zero]; exact rfl)
              case hQz40 => exact fun _ _ _ h => h
              case hfz40 => kernel_rfl
              case hrz40 => kernel_rfl
              case hwz40 => rfl
              case hyz40 => (intro w hSw; (try dsimp only at hSw); obtain ⟨e1, e2, e3, e4⟩ := hSw; go_simp; (try with_reducible rfl))
              try simp only [Act.put, List.setIfInBounds_toArray, List.set_cons_zero, List.set_cons_succ]
              refine' wpAnyH_take (i := 10) (oi := ?oiz41) (v := ?vz41) ?haz41 (by kernel_rfl) ?hfz41 ?hrz41 ?hQz41 (Or.inl ⟨?hwz41, ?hyz41⟩) (by assumption) ?restz41
              case haz41 => (simp only [List.getElem?_toArray, List.getElem?_cons_succ, List.getElem?_cons_zero]; exact rfl)
              case hQz41 => exact fun _ _ _ h => h
              case hfz41 => kernel_rfl
              case hrz41 => kernel_rfl
              case hwz41 => rfl
              case hyz41 => (intro w hSw; (try dsimp only at hSw); obtain ⟨e1, e2, e3, e4⟩ := hSw; go_simp; (try with_reducible rfl))
              try simp only [Act.put, List.setIfInBounds_toArray, List.set_cons_zero, List.set_cons_succ]
              refine' wpAnyH_take (i := 11) (oi := ?oiz42) (v := ?vz42) ?haz42 (by kernel_rfl) ?hfz42 ?hrz42 ?hQz42 (Or.inl ⟨?hwz42, ?hyz42⟩) (by assumption) ?restz42
              case haz42 => (simp only [List.getElem?_toArray, List.getElem?_cons_succ, List.getElem?_cons_zero]; exact rfl)
              case hQz42 => exact fun _ _ _ h => h
              case hfz42 => kernel_rfl
              case hrz42 => kernel_rfl
              case hwz42 => rfl
              case hyz42 => (intro w hSw; (try dsimp only at hSw); obtain ⟨e1, e2, e3, e4⟩ := hSw; go_simp; (try with_reducible rfl))
              try simp only [Act.put, List.setIfInBounds_toArray, List.set_cons_zero, List.set_cons_succ]
              refine wpAnyH_ready (rs := [12]) (by kernel_rfl) (by simp) ?_
              refine' AllReadyH.cons (o := ?oiz45) ?haz45 (fun K hK => ?stepz45) AllReadyH.nil
              case haz45 => (simp only [List.getElem?_toArray, List.getElem?_cons_succ, List.getElem?_cons_zero]; exact rfl)
              go_simp
              obtain ⟨y20, hy20⟩ : ∃ y20, y20 = World.alloc y19 (.cells #[.int .i64 0, .slice none 0 0] 35) := ⟨_, rfl⟩
              rw [← hy20]
              have sb : Below (World.heap y19).size y19 y20 := by rw [hy20]; exact (Below.refl _ _).alloc (Nat.le_refl _) _
              have BXL : Pair y20 y19.heap.size 35 (.int .i64 0) (.slice none 0 0) := by rw [hy20]; exact pair_new _ _ _ _
              have hbk : W0.heap.size ≤ y19.heap.size := BEL.size
              obtain ⟨bk, hbk0⟩ : ∃ bk, bk = y19.heap.size := ⟨_, rfl⟩
              rw [← hbk0] at BXL hbk ⊢
              clear hbk0
              clear hy20
              replace k1 := k1.below sb
              replace k2 := k2.below sb
              replace i1 := i1.below sb
              replace i2 := i2.below sb
              replace T9 := T9.below sb
              replace BEL := Below.chain BEL sb
              clear sb
              refine hK.out _ _ (⟨k1.cell0, k1.cell1, k2.cell0, k2.cell1⟩) (fun hHeld => ?_)
              clear hK K
              try simp only [Act.put, List.setIfInBounds_toArray, List.set_cons_zero, List.set_cons_succ]
              refine wpAnyH_ready (rs := [13]) (by kernel_rfl) (by simp) ?_
              refine' AllReadyH.cons (o := ?oiz44) ?haz44 (fun K hK => ?stepz44) AllReadyH.nil
              case haz44 => (simp only [List.getElem?_toArray, List.getElem?_cons_succ, List.getElem?_cons_zero]; exact rfl)
              have f0 := BXL.free0; have f1 := BXL.free1; have b0 := BXL.cell0; have b1 := BXL.cell1
              go_simp

              clear f0 f1 b0 b1
              have k19 := (k1.other (C := bk) (by omega) 0 (.int .i64 lhs.low)).other (C := bk) (by omega) 1 (.slice x1 x2 x3)
              have k29 := (k2.other (C := bk) (by omega) 0 (.int .i64 lhs.low)).other (C := bk) (by omega) 1 (.slice x1 x2 x3)
              refine hK.out _ _ (⟨k19.cell0, k19.cell1, k29.cell0, k29.cell1⟩) (fun hHeld => ?_)
              clear hK K
              try simp only [Act.put, List.setIfInBounds_toArray, List.set_cons_zero, List.set_cons_succ]
              refine' wpAnyH_take (i := 14) (oi := ?oiz43) (v := ?vz43) ?haz43 (by kernel_rfl) ?hfz43 ?hrz43 ?hQz43 (Or.inl ⟨?hwz43, ?hyz43⟩) (by assumption) ?restz43
              case haz43 => (simp only [List.getElem?_toArray, List.getElem?_cons_succ, List.getElem?_cons_zero]; exact rfl)
              case hQz43 => exact fun _ _ _ h => h
              case hfz43 => kernel_rfl
              case hrz43 => kernel_rfl
              case hwz43 => rfl
              case hyz43 => (intro w hSw; (try dsimp only at hSw); obtain ⟨e1, e2, e3, e4⟩ := hSw; go_simp; (try with_reducible rfl))
              try simp only [Act.put, List.setIfInBounds_toArray, List.set_cons_zero, List.set_cons_succ]
              refine wpAnyH_done (by kernel_rfl) ?_ _
              have hne7 : ∀ b, Go.Sl.row (.slice x1 x2 x3) = some b → bk ≠ b := Own.ne_of_type (by decide) T9 BXL
              go_wp2_with fail
              go_meet
              case rel => exact ⟨bk, _, rfl, rfl, BXL.set _ _, ((T9.setOther (fun b hb => hne7 b hb) _).setOther (fun b hb => hne7 b hb) _).ints, (BEL.setCell (p := ⟨bk, 0, none⟩) hbk _).setCell (p := ⟨bk, 1, none⟩) hbk _⟩
            case stepz53 =>
              go_simp
              obtain ⟨y21, hy21⟩ : ∃ y21, y21 = World.alloc y18 (.cells #[.int .i64 0, .slice none 0 0] 35) := ⟨_, rfl⟩
              rw [← hy21]
              have sb : Below (World.heap y18).size y18 y21 := by rw [hy21]; exact (Below.refl _ _).alloc (Nat.le_refl _) _
              have BXL : Pair y21 y18.heap.size 35 (.int .i64 0) (.slice none 0 0) := by rw [hy21]; exact pair_new _ _ _ _
              have hbk : W0.heap.size ≤ y18.heap.size := BEL.size
              obtain ⟨bk, hbk0⟩ : ∃ bk, bk = y18.heap.size := ⟨_, rfl⟩
              rw [← hbk0] at BXL hbk ⊢
              clear hbk0
              clear hy21
              replace k1 := k1.below sb
              replace k2 := k2.below sb
              replace i1 := i1.below sb
              replace i2 := i2.below sb
              replace U1 := U1.below sb
              replace U2 := U2.below sb
              replace BEL := Below.chain BEL sb
              clear sb
              refine hK.out _ _ (⟨k1.cell0, k1.cell1, k2.cell0, k2.cell1⟩) (fun hHeld => ?_)
              clear hK K
              try simp only [Act.put, List.setIfInBounds_toArray, List.set_cons_zero, List.set_cons_succ]
              refine wpAnyH_ready (rs := [8]) (by kernel_rfl) (by simp) ?_
              refine' AllReadyH.cons (o := ?oiz51) ?haz51 (fun K hK => ?stepz51) AllReadyH.nil
              case haz51 => (simp only [List.getElem?_toArray, List.getElem?_cons_succ, List.getElem?_cons_zero]; exact rfl)
              go_simp
              go_at_call 40
              refine (sub_calls (pmul lit4 p1) (pmul litm p2) u1 u2 y21 U1 U2 O1.out O2.out (by rw [HLH.out]; exact O3.out)).mono ?_
              rintro e y22 ⟨v9, rfl, h9, sb⟩
              rw [HLH.out] at h9 ⊢
              have T9 := h9.low (B' := W0.heap.size) BEL.size
              have s9 := T9.isSl
              obtain ⟨x1, x2, x3, rfl, -⟩ := s9.cases
              clear h9
              clear U1 U2
              replace k1 := k1.below sb
              replace k2 := k2.below sb
              replace i1 := i1.below sb
              replace i2 := i2.below sb
              replace BXL := BXL.below sb
              replace BEL := Below.chain BEL sb
              clear sb
              refine hK.out _ _ (⟨k1.cell0, k1.cell1, k2.cell0, k2.cell1⟩) (fun hHeld => ?_)
              clear hK K
              try simp only [Act.put, List.setIfInBounds_toArray, List.set_cons_zero, List.set_cons_succ]
              refine' wpAnyH_take (i := 9) (oi := ?oiz46) (v := ?vz46) ?haz46 (by kernel_rfl) ?hfz46 ?hrz46 ?hQz46 (Or.inl ⟨?hwz46, ?hyz46⟩) (by assumption) ?restz46
              case haz46 => (simp only [List.getElem?_toArray, List.getElem?_cons_succ, List.getElem?_cons_zero]; exact rfl)
              case hQz46 => exact fun _ _ _ h => h
              case hfz46 => kernel_rfl
              case hrz46 => kernel_rfl
              case hwz46 => rfl
              case hyz46 => (intro w hSw; (try dsimp only at hSw); obtain ⟨e1, e2, e3, e4⟩ := hSw; go_simp; (try with_reducible rfl))
              try simp only [Act.put, List.setIfInBounds_toArray, List.set_cons_zero, List.set_cons_succ]
              refine' wpAnyH_take (i := 10) (oi := ?oiz47) (v := ?vz47) ?haz47 (by kernel_rfl) ?hfz47 ?hrz47 ?hQz47 (Or.inl ⟨?hwz47, ?hyz47⟩) (by assumption) ?restz47
              case haz47 => (simp only [List.getElem?_toArray, List.getElem?_cons_succ, List.getElem?_cons_zero]; exact rfl)
              case hQz47 => exact fun _ _ _ h => h
              case hfz47 => kernel_rfl
              case hrz47 => kernel_rfl
              case hwz47 => rfl
              case hyz47 => (intro w hSw; (try dsimp only at hSw); obtain ⟨e1, e2, e3, e4⟩ := hSw; go_simp; (try with_reducible rfl))
              try simp only [Act.put, List.setIfInBounds_toArray, List.set_cons_zero, List.set_cons_succ]
              refine' wpAnyH_take (i := 11) (oi := ?oiz48) (v := ?vz48) ?haz48 (by kernel_rfl) ?hfz48 ?hrz48 ?hQz48 (Or.inl ⟨?hwz48, ?hyz48⟩) (by assumption) ?restz48
              case haz48 => (simp only [List.getElem?_toArray, List.getElem?_cons_succ, List.getElem?_cons_zero]; exact rfl)
              case hQz48 => exact fun _ _ _ h => h
              case hfz48 => kernel_rfl
              case hrz48 => kernel_rfl
              case hwz48 => rfl
              case hyz48 => (intro w hSw; (try dsimp only at hSw); obtain ⟨e1, e2, e3, e4⟩ := hSw; go_simp; (try with_reducible rfl))
              try simp only [Act.put, List.setIfInBounds_toArray, List.set_cons_zero, List.set_cons_succ]
              refine wpAnyH_ready (rs := [13]) (by kernel_rfl) (by simp) ?_
              refine' AllReadyH.cons (o := ?oiz50) ?haz50 (fun K hK => ?stepz50) AllReadyH.nil
              case haz50 => (simp only [List.getElem?_toArray, List.getElem?_cons_succ, List.getElem?_cons_zero]; exact rfl)
              have f0 := BXL.free0; have f1 := BXL.free1; have b0 := BXL.cell0; have b1 := BXL.cell1
              go_simp

              clear f0 f1 b0 b1
              have k19 := (k1.other (C := bk) (by omega) 0 (.int .i64 lhs.low)).other (C := bk) (by omega) 1 (.slice x1 x2 x3)
              have k29 := (k2.other (C := bk) (by omega) 0 (.int .i64 lhs.low)).other (C := bk) (by omega) 1 (.slice x1 x2 x3)
              refine hK.out _ _ (⟨k19.cell0, k19.cell1, k29.cell0, k29.cell1⟩) (fun hHeld => ?_)
              clear hK K
              try simp only [Act.put, List.setIfInBounds_toArray, List.set_cons_zero, List.set_cons_succ]
              refine' wpAnyH_take (i := 14) (oi := ?oiz49) (v := ?vz49) ?haz49 (by kernel_rfl) ?hfz49 ?hrz49 ?hQz49 (Or.inl ⟨?hwz49, ?hyz49⟩) (by assumption) ?restz49
              case haz49 => (simp only [List.getElem?_toArray, List.getElem?_cons_succ, List.getElem?_cons_zero]; exact rfl)
              case hQz49 => exact fun _ _ _ h => h
              case hfz49 => kernel_rfl
              case hrz49 => kernel_rfl
              case hwz49 => rfl
              case hyz49 => (intro w hSw; (try dsimp only at hSw); obtain ⟨e1, e2, e3, e4⟩ := hSw; go_simp; (try with_reducible rfl))
              try simp only [Act.put, List.setIfInBounds_toArray, List.set_cons_zero, List.set_cons_succ]
              refine wpAnyH_done (by kernel_rfl) ?_ _
              have hne7 : ∀ b, Go.Sl.row (.slice x1 x2 x3) = some b → bk ≠ b := Own.ne_of_type (by decide) T9 BXL
              go_wp2_with fail
              go_meet
              case rel => exact ⟨bk, _, rfl, rfl, BXL.set _ _, ((T9.setOther (fun b hb => hne7 b hb) _).setOther (fun b hb => hne7 b hb) _).ints, (BEL.setCell (p := ⟨bk, 0, none⟩) hbk _).setCell (p := ⟨bk, 1, none⟩) hbk _⟩
          case stepz62 =>
            go_simp
            obtain ⟨y23, hy23⟩ : ∃ y23, y23 = World.alloc y17 (.cells #[.int .i64 0, .slice none 0 0] 35) := ⟨_, rfl⟩
            rw [← hy23]
            have sb : Below (World.heap y17).size y17 y23 := by rw [hy23]; exact (Below.refl _ _).alloc (Nat.le_refl _) _
            have BXL : Pair y23 y17.heap.size 35 (.int .i64 0) (.slice none 0 0) := by rw [hy23]; exact pair_new _ _ _ _
            have hbk : W0.heap.size ≤ y17.heap.size := BEL.size
            obtain ⟨bk, hbk0⟩ : ∃ bk, bk = y17.heap.size := ⟨_, rfl⟩
            rw [← hbk0] at BXL hbk ⊢
            clear hbk0
            clear hy23
            replace k1 := k1.below sb
            replace k2 := k2.below sb
            replace i1 := i1.below sb
            replace i2 := i2.below sb
            replace LB := LB.below sb
            replace U1 := U1.below sb
            replace BEL := Below.chain BEL sb
            clear sb
            refine hK.out _ _ (⟨k1.cell0, k1.cell1, k2.cell0, k2.cell1⟩) (fun hHeld => ?_)
            clear hK K
            try simp only [Act.put, List.setIfInBounds_toArray, List.set_cons_zero, List.set_cons_succ]
            refine wpAnyH_ready (rs := [7]) (by kernel_rfl) (by simp) ?_
            refine' AllReadyH.cons (o := ?oiz60) ?haz60 (fun K hK => ?stepz60) AllReadyH.nil
            case haz60 => (simp only [List.getElem?_toArray, List.getElem?_cons_succ, List.getElem?_cons_zero]; exact rfl)
            go_simp
            go_at_call 41
            refine (mulK_calls litm p2 _ _ y23 LB i2 litm_ok Q2.out O2.out).mono ?_
            rintro e y24 ⟨u2, rfl, h6, sb⟩
            have s6 := h6.isSl
            have U2 := h6.ints
            clear h6
            clear LB
            replace k1 := k1.below sb
            replace k2 := k2.below sb
            replace i1 := i1.below sb
            replace i2 := i2.below sb
            replace U1 := U1.below sb
            replace BXL := BXL.below sb
            replace BEL := Below.chain BEL sb
            clear sb
            refine hK.out _ _ (⟨k1.cell0, k1.cell1, k2.cell0, k2.cell1⟩) (fun hHeld => ?_)
            clear hK K
            try simp only [Act.put, List.setIfInBounds_toArray, List.set_cons_zero, List.set_cons_succ]
            refine wpAnyH_ready (rs := [8]) (by kernel_rfl) (by simp) ?_
            refine' AllReadyH.cons (o := ?oiz59) ?haz59 (fun K hK => ?stepz59) AllReadyH.nil
            case haz59 => (simp only [List.getElem?_toArray, List.getElem?_cons_succ, List.getElem?_cons_zero]; exact rfl)
            go_simp
            go_at_call 40
            refine (sub_calls (pmul lit4 p1) (pmul litm p2) u1 u2 y24 U1 U2 O1.out O2.out (by rw [HLH.out]; exact O3.out)).mono ?_
            rintro e y25 ⟨v9, rfl, h9, sb⟩
            rw [HLH.out] at h9 ⊢
            have T9 := h9.low (B' := W0.heap.size) BEL.size
            have s9 := T9.isSl
            obtain ⟨x1, x2, x3, rfl, -⟩ := s9.cases
            clear h9
            clear U1 U2
            replace k1 := k1.below sb
            replace k2 := k2.below sb
            replace i1 := i1.below sb
            replace i2 := i2.below sb
            replace BXL := BXL.below sb
            replace BEL := Below.chain BEL sb
            clear sb
            refine hK.out _ _ (⟨k1.cell0, k1.cell1, k2.cell0, k2.cell1⟩) (fun hHeld => ?_)
            clear hK K
            try simp only [Act.put, List.setIfInBounds_toArray, List.set_cons_zero, List.set_cons_succ]
            refine' wpAnyH_take (i := 9) (oi := ?oiz54) (v := ?vz54) ?haz54 (by kernel_rfl) ?hfz54 ?hrz54 ?hQz54 (Or.inl ⟨?hwz54, ?hyz54⟩) (by assumption) ?restz54
            case haz54 => (simp only [List.getElem?_toArray, List.getElem?_cons_succ, List.getElem?_cons_zero]; exact rfl)
            case hQz54 => exact fun _ _ _ h => h
            case hfz54 => kernel_rfl
            case hrz54 => kernel_rfl
            case hwz54 => rfl
            case hyz54 => (intro w hSw; (try dsimp only at hSw); obtain ⟨e1, e2, e3, e4⟩ := hSw; go_simp; (try with_reducible rfl))
            try simp only [Act.put, List.setIfInBounds_toArray, List.set_cons_zero, List.set_cons_succ]
            refine' wpAnyH_take (i := 10) (oi := ?oiz55) (v := ?vz55) ?haz55 (by kernel_rfl) ?hfz55 ?hrz55 ?hQz55 (Or.inl ⟨?hwz55, ?hyz55⟩) (by assumption) ?restz55
            case haz55 => (simp only [List.getElem?_toArray, List.getElem?_cons_succ, List.getElem?_cons_zero]; exact rfl)
            case hQz55 => exact fun _ _ _ h => h
            case hfz55 => kernel_rfl
            case hrz55 => kernel_rfl
            case hwz55 => rfl
            case hyz55 => (intro w hSw; (try dsimp only at hSw); obtain ⟨e1, e2, e3, e4⟩ := hSw; go_simp; (try with_reducible rfl))
            try simp only [Act.put, List.setIfInBounds_toArray, List.set_cons_zero, List.set_cons_succ]
            refine' wpAnyH_take (i := 11) (oi := ?oiz56) (v := ?vz56) ?haz56 (by kernel_rfl) ?hfz56 ?hrz56 ?hQz56 (Or.inl ⟨?hwz56, ?hyz56⟩) (by assumption) ?restz56
            case haz56 => (simp only [List.getElem?_toArray, List.getElem?_cons_succ, List.getElem?_cons_zero]; exact rfl)
            case hQz56 => exact fun _ _ _ h => h
            case hfz56 => kernel_rfl
            case hrz56 => kernel_rfl
            case hwz56 => rfl
            case hyz56 => (intro w hSw; (try dsimp only at hSw); obtain ⟨e1, e2, e3, e4⟩ := hSw; go_simp; (try with_reducible rfl))
            try simp only [Act.put, List.setIfInBounds_toArray, List.set_cons_zero, List.set_cons_succ]
            refine wpAnyH_ready (rs := [13]) (by kernel_rfl) (by simp) ?_
            refine' AllReadyH.cons (o := ?oiz58) ?haz58 (fun K hK => ?stepz58) AllReadyH.nil
            case haz58 => (simp only [List.getElem?_toArray, List.getElem?_cons_succ, List.getElem?_cons_zero]; exact rfl)
            have f0 := BXL.free0; have f1 := BXL.free1; have b0 := BXL.cell0; have b1 := BXL.cell1
            go_simp

            clear f0 f1 b0 b1
            have k19 := (k1.other (C := bk) (by omega) 0 (.int .i64 lhs.low)).other (C := bk) (by omega) 1 (.slice x1 x2 x3)
            have k29 := (k2.other (C := bk) (by omega) 0 (.int .i64 lhs.low)).other (C := bk) (by omega) 1 (.slice x1 x2 x3)
            refine hK.out _ _ (⟨k19.cell0, k19.cell1, k29.cell0, k29.cell1⟩) (fun hHeld => ?_)
            clear hK K
            try simp only [Act.put, List.setIfInBounds_toArray, List.set_cons_zero, List.set_cons_succ]
            refine' wpAnyH_take (i := 14) (oi := ?oiz57) (v := ?vz57) ?haz57 (by kernel_rfl) ?hfz57 ?hrz57 ?hQz57 (Or.inl ⟨?hwz57, ?hyz57⟩) (by assumption) ?restz57
            case haz57 => (simp only [List.getElem?_toArray, List.getElem?_cons_succ, List.getElem?_cons_zero]; exact rfl)
            case hQz57 => exact fun _ _ _ h => h
            case hfz57 => kernel_rfl
            case hrz57 => kernel_rfl
            case hwz57 => rfl
            case hyz57 => (intro w hSw; (try dsimp only at hSw); obtain ⟨e1, e2, e3, e4⟩ := hSw; go_simp; (try with_reducible rfl))
            try simp only [Act.put, List.setIfInBounds_toArray, List.set_cons_zero, List.set_cons_succ]
            refine wpAnyH_done (by kernel_rfl) ?_ _
            have hne7 : ∀ b, Go.Sl.row (.slice x1 x2 x3) = some b → bk ≠ b := Own.ne_of_type (by decide) T9 BXL
            go_wp2_with fail
            go_meet
            case rel => exact ⟨bk, _, rfl, rfl, BXL.set _ _, ((T9.setOther (fun b hb => hne7 b hb) _).setOther (fun b hb => hne7 b hb) _).ints, (BEL.setCell (p := ⟨bk, 0, none⟩) hbk _).setCell (p := ⟨bk, 1, none⟩) hbk _⟩
        case stepz72 =>
          go_simp
          obtain ⟨y26, hy26⟩ : ∃ y26, y26 = World.alloc y16 (.cells #[.int .i64 0, .slice none 0 0] 35) := ⟨_, rfl⟩
          rw [← hy26]
          have sb : Below (World.heap y16).size y16 y26 := by rw [hy26]; exact (Below.refl _ _).alloc (Nat.le_refl _) _
          have BXL : Pair y26 y16.heap.size 35 (.int .i64 0) (.slice none 0 0) := by rw [hy26]; exact pair_new _ _ _ _
          have hbk : W0.heap.size ≤ y16.heap.size := BEL.size
          obtain ⟨bk, hbk0⟩ : ∃ bk, bk = y16.heap.size := ⟨_, rfl⟩
          rw [← hbk0] at BXL hbk ⊢
          clear hbk0
          clear hy26
          replace k1 := k1.below sb
          replace k2 := k2.below sb
          replace i1 := i1.below sb
          replace i2 := i2.below sb
          replace LA := LA.below sb
          replace LB := LB.below sb
          replace BEL := Below.chain BEL sb
          clear sb
          refine hK.out _ _ (⟨k1.cell0, k1.cell1, k2.cell0, k2.cell1⟩) (fun hHeld => ?_)
          clear hK K
          try simp only [Act.put, List.setIfInBounds_toArray, List.set_cons_zero, List.set_cons_succ]
          refine wpAnyH_ready (rs := [3]) (by kernel_rfl) (by simp) ?_
          refine' AllReadyH.cons (o := ?oiz70) ?haz70 (fun K hK => ?stepz70) AllReadyH.nil
          case haz70 => (simp only [List.getElem?_toArray, List.getElem?_cons_succ, List.getElem?_cons_zero]; exact rfl)
          go_simp
          go_at_call 41
          refine (mulK_calls lit4 p1 _ _ y26 LA i1 lit4_ok Q1.out O1.out).mono ?_
          rintro e y27 ⟨u1, rfl, h5, sb⟩
          have s5 := h5.isSl
          have U1 := h5.ints
          clear h5
          clear LA
          replace k1 := k1.below sb
          replace k2 := k2.below sb
          replace i1 := i1.below sb
          replace i2 := i2.below sb
          replace LB := LB.below sb
          replace BXL := BXL.below sb
          replace BEL := Below.chain BEL sb
          clear sb
          refine hK.out _ _ (⟨k1.cell0, k1.cell1, k2.cell0, k2.cell1⟩) (fun hHeld => ?_)
          clear hK K
          try simp only [Act.put, List.setIfInBounds_toArray, List.set_cons_zero, List.set_cons_succ]
          refine wpAnyH_ready (rs := [7]) (by kernel_rfl) (by simp) ?_
          refine' AllReadyH.cons (o := ?oiz69) ?haz69 (fun K hK => ?stepz69) AllReadyH.nil
          case haz69 => (simp only [List.getElem?_toArray, List.getElem?_cons_succ, List.getElem?_cons_zero]; exact rfl)
          go_simp
          go_at_call 41
          refine (mulK_calls litm p2 _ _ y27 LB i2 litm_ok Q2.out O2.out).mono ?_
          rintro e y28 ⟨u2, rfl, h6, sb⟩
          have s6 := h6.isSl
          have U2 := h6.ints
          clear h6
          clear LB
          replace k1 := k1.below sb
          replace k2 := k2.below sb
          replace i1 := i1.below sb
          replace i2 := i2.below sb
          replace BXL := BXL.below sb
          replace U1 := U1.below sb
          replace BEL := Below.chain BEL sb
          clear sb
          refine hK.out _ _ (⟨k1.cell0, k1.cell1, k2.cell0, k2.cell1⟩) (fun hHeld => ?_)
          clear hK K
          try simp only [Act.put, List.setIfInBounds_toArray, List.set_cons_zero, List.set_cons_succ]
          refine wpAnyH_ready (rs := [8]) (by kernel_rfl) (by simp) ?_
          refine' AllReadyH.cons (o := ?oiz68) ?haz68 (fun K hK => ?stepz68) AllReadyH.nil
          case haz68 => (simp only [List.getElem?_toArray, List.getElem?_cons_succ, List.getElem?_cons_zero]; exact rfl)
          go_simp
          go_at_call 40
          refine (sub_calls (pmul lit4 p1) (pmul litm p2) u1 u2 y28 U1 U2 O1.out O2.out (by rw [HLH.out]; exact O3.out)).mono ?_
          rintro e y29 ⟨v9, rfl, h9, sb⟩
          rw [HLH.out] at h9 ⊢
          have T9 := h9.low (B' := W0.heap.size) BEL.size
          have s9 := T9.isSl
          obtain ⟨x1, x2, x3, rfl, -⟩ := s9.cases
          clear h9
          clear U1 U2
          replace k1 := k1.below sb
          replace k2 := k2.below sb
          replace i1 := i1.below sb
          replace i2 := i2.below sb
          replace BXL := BXL.below sb
          replace BEL := Below.chain BEL sb
          clear sb
          refine hK.out _ _ (⟨k1.cell0, k1.cell1, k2.cell0, k2.cell1⟩) (fun hHeld => ?_)
          clear hK K
          try simp only [Act.put, List.setIfInBounds_toArray, List.set_cons_zero, List.set_cons_succ]
          refine' wpAnyH_take (i := 9) (oi := ?oiz63) (v := ?vz63) ?haz63 (by kernel_rfl) ?hfz63 ?hrz63 ?hQz63 (Or.inl ⟨?hwz63, ?hyz63⟩) (by assumption) ?restz63
          case haz63 => (simp only [List.getElem?_toArray, List.getElem?_cons_succ, List.getElem?_cons_zero]; exact rfl)
          case hQz63 => exact fun _ _ _ h => h
          case hfz63 => kernel_rfl
          case hrz63 => kernel_rfl
          case hwz63 => rfl
          case hyz63 => (intro w hSw; (try dsimp only at hSw); obtain ⟨e1, e2, e3, e4⟩ := hSw; go_simp; (try with_reducible rfl))
          try simp only [Act.put, List.setIfInBounds_toArray, List.set_cons_zero, List.set_cons_succ]
          refine' wpAnyH_take (i := 10) (oi := ?oiz64) (v := ?vz64) ?haz64 (by kernel_rfl) ?hfz64 ?hrz64 ?hQz64 (Or.inl ⟨?hwz64, ?hyz64⟩) (by assumption) ?restz64
          case haz64 => (simp only [List.getElem?_toArray, List.getElem?_cons_succ, List.getElem?_cons_zero]; exact rfl)
          case hQz64 => exact fun _ _ _ h => h
          case hfz64 => kernel_rfl
          case hrz64 => kernel_rfl
          case hwz64 => rfl
          case hyz64 => (intro w hSw; (try dsimp only at hSw); obtain ⟨e1, e2, e3, e4⟩ := hSw; go_simp; (try with_reducible rfl))
          try simp only [Act.put, List.setIfInBounds_toArray, List.set_cons_zero, List.set_cons_succ]
          refine' wpAnyH_take (i := 11) (oi := ?oiz65) (v := ?vz65) ?haz65 (by kernel_rfl) ?hfz65 ?hrz65 ?hQz65 (Or.inl ⟨?hwz65, ?hyz65⟩) (by assumption) ?restz65
          case haz65 => (simp only [List.getElem?_toArray, List.getElem?_cons_succ, List.getElem?_cons_zero]; exact rfl)
          case hQz65 => exact fun _ _ _ h => h
          case hfz65 => kernel_rfl
          case hrz65 => kernel_rfl
          case hwz65 => rfl
          case hyz65 => (intro w hSw; (try dsimp only at hSw); obtain ⟨e1, e2, e3, e4⟩ := hSw; go_simp; (try with_reducible rfl))
          try simp only [Act.put, List.setIfInBounds_toArray, List.set_cons_zero, List.set_cons_succ]
          refine wpAnyH_ready (rs := [13]) (by kernel_rfl) (by simp) ?_
          refine' AllReadyH.cons (o := ?oiz67) ?haz67 (fun K hK => ?stepz67) AllReadyH.nil
          case haz67 => (simp only [List.getElem?_toArray, List.getElem?_cons_succ, List.getElem?_cons_zero]; exact rfl)
          have f0 := BXL.free0; have f1 := BXL.free1; have b0 := BXL.cell0; have b1 := BXL.cell1
          go_simp

          clear f0 f1 b0 b1
          have k19 := (k1.other (C := bk) (by omega) 0 (.int .i64 lhs.low)).other (C := bk) (by omega) 1 (.slice x1 x2 x3)
          have k29 := (k2.other (C := bk) (by omega) 0 (.int .i64 lhs.low)).other (C := bk) (by omega) 1 (.slice x1 x2 x3)
          refine hK.out _ _ (⟨k19.cell0, k19.cell1, k29.cell0, k29.cell1⟩) (fun hHeld => ?_)
          clear hK K
          try simp only [Act.put, List.setIfInBounds_toArray, List.set_cons_zero, List.set_cons_succ]
          refine' wpAnyH_take (i := 14) (oi := ?oiz66) (v := ?vz66) ?haz66 (by kernel_rfl) ?hfz66 ?hrz66 ?hQz66 (Or.inl ⟨?hwz66, ?hyz66⟩) (by assumption) ?restz66
          case haz66 => (simp only [List.getElem?_toArray, List.getElem?_cons_succ, List.getElem?_cons_zero]; exact rfl)
          case hQz66 => exact fun _ _ _ h => h
          case hfz66 => kernel_rfl
          case hrz66 => kernel_rfl
          case hwz66 => rfl
          case hyz66 => (intro w hSw; (try dsimp only at hSw); obtain ⟨e1, e2, e3, e4⟩ := hSw; go_simp; (try with_reducible rfl))
          try simp only [Act.put, List.setIfInBounds_toArray, List.set_cons_zero, List.set_cons_succ]
          refine wpAnyH_done (by kernel_rfl) ?_ _
          have hne7 : ∀ b, Go.Sl.row (.slice x1 x2 x3) = some b → bk ≠ b := Own.ne_of_type (by decide) T9 BXL
          go_wp2_with fail
          go_meet
          case rel => exact ⟨bk, _, rfl, rfl, BXL.set _ _, ((T9.setOther (fun b hb => hne7 b hb) _).setOther (fun b hb => hne7 b hb) _).ints, (BEL.setCell (p := ⟨bk, 0, none⟩) hbk _).setCell (p := ⟨bk, 1, none⟩) hbk _⟩
      case stepz95 =>
        go_simp
        obtain ⟨y30, hy30⟩ : ∃ y30, y30 = World.alloc y1 (.cells #[.int .i64 0, .slice none 0 0] 35) := ⟨_, rfl⟩
        rw [← hy30]
        have sb : Below (World.heap y1).size y1 y30 := by rw [hy30]; exact (Below.refl _ _).alloc (Nat.le_refl _) _
        have BXL : Pair y30 y1.heap.size 35 (.int .i64 0) (.slice none 0 0) := by rw [hy30]; exact pair_new _ _ _ _
        have hbk : W0.heap.size ≤ y1.heap.size := BEL.size
        obtain ⟨bk, hbk0⟩ : ∃ bk, bk = y1.heap.size := ⟨_, rfl⟩
        rw [← hbk0] at BXL hbk ⊢
        clear hbk0
        clear hy30
        replace k1 := k1.below sb
        replace k2 := k2.below sb
        replace i1 := i1.below sb
        replace i2 := i2.below sb
        replace LA := LA.below sb
        replace BEL := Below.chain BEL sb
        clear sb
        refine hK.out _ _ (⟨k1.cell0, k1.cell1, k2.cell0, k2.cell1⟩) (fun hHeld => ?_)
        clear hK K
        try simp only [Act.put, List.setIfInBounds_toArray, List.set_cons_zero, List.set_cons_succ]
        refine wpAnyH_ready (rs := [3, 4]) (by kernel_rfl) (by simp) ?_
        refine' AllReadyH.cons (o := ?oiz91) ?haz91 (fun K hK => ?stepz91) (AllReadyH.cons (o := ?oiz92) ?haz92 (fun K hK => ?stepz92) AllReadyH.nil)
        case haz91 => (simp only [List.getElem?_toArray, List.getElem?_cons_succ, List.getElem?_cons_zero]; exact rfl)
        case haz92 => (simp only [List.getElem?_toArray, List.getElem?_cons_succ, List.getElem?_cons_zero]; exact rfl)
        case stepz91 =>
          go_simp
          go_at_call 41
          refine (mulK_calls lit4 p1 _ _ y30 LA i1 lit4_ok Q1.out O1.out).mono ?_
          rintro e y31 ⟨u1, rfl, h5, sb⟩
          have s5 := h5.isSl
          have U1 := h5.ints
          clear h5
          clear LA
          replace k1 := k1.below sb
          replace k2 := k2.below sb
          replace i1 := i1.below sb
          replace i2 := i2.below sb
          replace BXL := BXL.below sb
          replace BEL := Below.chain BEL sb
          clear sb
          refine hK.out _ _ (⟨k1.cell0, k1.cell1, k2.cell0, k2.cell1⟩) (fun hHeld => ?_)
          clear hK K
          try simp only [Act.put, List.setIfInBounds_toArray, List.set_cons_zero, List.set_cons_succ]
          refine wpAnyH_ready (rs := [4]) (by kernel_rfl) (by simp) ?_
          refine' AllReadyH.cons (o := ?oiz81) ?haz81 (fun K hK => ?stepz81) AllReadyH.nil
          case haz81 => (simp only [List.getElem?_toArray, List.getElem?_cons_succ, List.getElem?_cons_zero]; exact rfl)
          go_simp
          obtain ⟨y32, hy32⟩ : ∃ y32, y32 = World.alloc y31 (.cells #[.int .i64 1] 3) := ⟨_, rfl⟩
          rw [← hy32]
          have sb : Below (World.heap y31).size y31 y32 := by rw [hy32]; exact (Below.refl _ _).alloc (Nat.le_refl _) _
          have LB : Ints y32 (.slice (some ⟨y31.heap.size, 0, none⟩) 1 1) [1] := by rw [hy32]; exact ints_lit [1] rfl rfl rfl (by simp)
          clear hy32
          replace k1 := k1.below sb
          replace k2 := k2.below sb
          replace i1 := i1.below sb
          replace i2 := i2.below sb
          replace BXL := BXL.below sb
          replace U1 := U1.below sb
          replace BEL := Below.chain BEL sb
          clear sb
          refine hK.out _ _ (⟨k1.cell0, k1.cell1, k2.cell0, k2.cell1⟩) (fun hHeld => ?_)
          clear hK K
          try simp only [Act.put, List.setIfInBounds_toArray, List.set_cons_zero, List.set_cons_succ]
          refine' wpAnyH_take (i := 5) (oi := ?oiz73) (v := ?vz73) ?haz73 (by kernel_rfl) ?hfz73 ?hrz73 ?hQz73 (Or.inl ⟨?hwz73, ?hyz73⟩) (by assumption) ?restz73
          case haz73 => (simp only [List.getElem?_toArray, List.getElem?_cons_succ, List.getElem?_cons_zero]; exact rfl)
          case hQz73 => exact fun _ _ _ h => h
          case hfz73 => kernel_rfl
          case hrz73 => kernel_rfl
          case hwz73 => rfl
          case hyz73 => (intro w hSw; (try dsimp only at hSw); obtain ⟨e1, e2, e3, e4⟩ := hSw; go_simp; (try with_reducible rfl))
          try simp only [Act.put, List.setIfInBounds_toArray, List.set_cons_zero, List.set_cons_succ]
          refine wpAnyH_ready (rs := [7]) (by kernel_rfl) (by simp) ?_
          refine' AllReadyH.cons (o := ?oiz80) ?haz80 (fun K hK => ?stepz80) AllReadyH.nil
          case haz80 => (simp only [List.getElem?_toArray, List.getElem?_cons_succ, List.getElem?_cons_zero]; exact rfl)
          go_simp
          go_at_call 41
          refine (mulK_calls litm p2 _ _ y32 LB i2 litm_ok Q2.out O2.out).mono ?_
          rintro e y33 ⟨u2, rfl, h6, sb⟩
          have s6 := h6.isSl
          have U2 := h6.ints
          clear h6
          clear LB
          replace k1 := k1.below sb
          replace k2 := k2.below sb
          replace i1 := i1.below sb
          replace i2 := i2.below sb
          replace BXL := BXL.below sb
          replace U1 := U1.below sb
          replace BEL := Below.chain BEL sb
          clear sb
          refine hK.out _ _ (⟨k1.cell0, k1.cell1, k2.cell0, k2.cell1⟩) (fun hHeld => ?_)
          clear hK K
          try simp only [Act.put, List.setIfInBounds_toArray, List.set_cons_zero, List.set_cons_succ]
          refine wpAnyH_ready (rs := [8]) (by kernel_rfl) (by simp) ?_
          refine' AllReadyH.cons (o := ?oiz79) ?haz79 (fun K hK => ?stepz79) AllReadyH.nil
          case haz79 => (simp only [List.getElem?_toArray, List.getElem?_cons_succ, List.getElem?_cons_zero]; exact rfl)
          go_simp
          go_at_call 40
          refine (sub_calls (pmul lit4 p1) (pmul litm p2) u1 u2 y33 U1 U2 O1.out O2.out (by rw [HLH.out]; exact O3.out)).mono ?_
          rintro e y34 ⟨v9, rfl, h9, sb⟩
          rw [HLH.out] at h9 ⊢
          have T9 := h9.low (B' := W0.heap.size) BEL.size
          have s9 := T9.isSl
          obtain ⟨x1, x2, x3, rfl, -⟩ := s9.cases
          clear h9
          clear U1 U2
          replace k1 := k1.below sb
          replace k2 := k2.below sb
          replace i1 := i1.below sb
          replace i2 := i2.below sb
          replace BXL := BXL.below sb
          replace BEL := Below.chain BEL sb
          clear sb
          refine hK.out _ _ (⟨k1.cell0, k1.cell1, k2.cell0, k2.cell1⟩) (fun hHeld => ?_)
          clear hK K
          try simp only [Act.put, List.setIfInBounds_toArray, List.set_cons_zero, List.set_cons_succ]
          refine' wpAnyH_take (i := 9) (oi := ?oiz74) (v := ?vz74) ?haz74 (by kernel_rfl) ?hfz74 ?hrz74 ?hQz74 (Or.inl ⟨?hwz74, ?hyz74⟩) (by assumption) ?restz74
          case haz74 => (simp only [List.getElem?_toArray, List.getElem?_cons_succ, List.getElem?_cons_zero]; exact rfl)
          case hQz74 => exact fun _ _ _ h => h
          case hfz74 => kernel_rfl
          case hrz74 => kernel_rfl
          case hwz74 => rfl
          case hyz74 => (intro w hSw; (try dsimp only at hSw); obtain ⟨e1, e2, e3, e4⟩ := hSw; go_simp; (try with_reducible rfl))
          try simp only [Act.put, List.setIfInBounds_toArray, List.set_cons_zero, List.set_cons_succ]
          refine' wpAnyH_take (i := 10) (oi := ?oiz75) (v := ?vz75) ?haz75 (by kernel_rfl) ?hfz75 ?hrz75 ?hQz75 (Or.inl ⟨?hwz75, ?hyz75⟩) (by assumption) ?restz75
          case haz75 => (simp only [List.getElem?_toArray, List.getElem?_cons_succ, List.getElem?_cons_zero]; exact rfl)
          case hQz75 => exact fun _ _ _ h => h
          case hfz75 => kernel_rfl
          case hrz75 => kernel_rfl
          case hwz75 => rfl
          case hyz75 => (intro w hSw; (try dsimp only at hSw); obtain ⟨e1, e2, e3, e4⟩ := hSw; go_simp; (try with_reducible rfl))
          try simp only [Act.put, List.setIfInBounds_toArray, List.set_cons_zero, List.set_cons_succ]
          refine' wpAnyH_take (i := 11) (oi := ?oiz76) (v := ?vz76) ?haz76 (by kernel_rfl) ?hfz76 ?hrz76 ?hQz76 (Or.inl ⟨?hwz76, ?hyz76⟩) (by assumption) ?restz76
          case haz76 => (simp only [List.getElem?_toArray, List.getElem?_cons_succ, List.getElem?_cons_zero]; exact rfl)
          case hQz76 => exact fun _ _ _ h => h
          case hfz76 => kernel_rfl
          case hrz76 => kernel_rfl
          case hwz76 => rfl
          case hyz76 => (intro w hSw; (try dsimp only at hSw); obtain ⟨e1, e2, e3, e4⟩ := hSw; go_simp; (try with_reducible rfl))
          try simp only [Act.put, List.setIfInBounds_toArray, List.set_cons_zero, List.set_cons_succ]
          refine wpAnyH_ready (rs := [13]) (by kernel_rfl) (by simp) ?_
          refine' AllReadyH.cons (o := ?oiz78) ?haz78 (fun K hK => ?stepz78) AllReadyH.nil
          case haz78 => (simp only [List.getElem?_toArray, List.getElem?_cons_succ, List.getElem?_cons_zero]; exact rfl)
          have f0 := BXL.free0; have f1 := BXL.free1; have b0 := BXL.cell0; have b1 := BXL.cell1
          go_simp

          clear f0 f1 b0 b1
          have k19 := (k1.other (C := bk) (by omega) 0 (.int .i64 lhs.low)).other (C := bk) (by omega) 1 (.slice x1 x2 x3)
          have k29 := (k2.other (C := bk) (by omega) 0 (.int .i64 lhs.low)).other (C := bk) (by omega) 1 (.slice x1 x2 x3)
          refine hK.out _ _ (⟨k19.cell0, k19.cell1, k29.cell0, k29.cell1⟩) (fun hHeld => ?_)
          clear hK K
          try simp only [Act.put, List.setIfInBounds_toArray, List.set_cons_zero, List.set_cons_succ]
          refine' wpAnyH_take (i := 14) (oi := ?oiz77) (v := ?vz77) ?haz77 (by kernel_rfl) ?hfz77 ?hrz77 ?hQz77 (Or.inl ⟨?hwz77, ?hyz77⟩) (by assumption) ?restz77
          case haz77 => (simp only [List.getElem?_toArray, List.getElem?_cons_succ, List.getElem?_cons_zero]; exact rfl)
          case hQz77 => exact fun _ _ _ h => h
          case hfz77 => kernel_rfl
          case hrz77 => kernel_rfl
          case hwz77 => rfl
          case hyz77 => (intro w hSw; (try dsimp only at hSw); obtain ⟨e1, e2, e3, e4⟩ := hSw; go_simp; (try with_reducible rfl))
          try simp only [Act.put, List.setIfInBounds_toArray, List.set_cons_zero, List.set_cons_succ]
          refine wpAnyH_done (by kernel_rfl) ?_ _
          have hne7 : ∀ b, Go.Sl.row (.slice x1 x2 x3) = some b → bk ≠ b := Own.ne_of_type (by decide) T9 BXL
          go_wp2_with fail
          go_meet
          case rel => exact ⟨bk, _, rfl, rfl, BXL.set _ _, ((T9.setOther (fun b hb => hne7 b hb) _).setOther (fun b hb => hne7 b hb) _).ints, (BEL.setCell (p := ⟨bk, 0, none⟩) hbk _).setCell (p := ⟨bk, 1, none⟩) hbk _⟩
        case stepz92 =>
          go_simp
          obtain ⟨y35, hy35⟩ : ∃ y35, y35 = World.alloc y30 (.cells #[.int .i64 1] 3) := ⟨_, rfl⟩
          rw [← hy35]
          have sb : Below (World.heap y30).size y30 y35 := by rw [hy35]; exact (Below.refl _ _).alloc (Nat.le_refl _) _
          have LB : Ints y35 (.slice (some ⟨y30.heap.size, 0, none⟩) 1 1) [1] := by rw [hy35]; exact ints_lit [1] rfl rfl rfl (by simp)
          clear hy35
          replace k1 := k1.below sb
          replace k2 := k2.below sb
          replace i1 := i1.below sb
          replace i2 := i2.below sb
          replace LA := LA.below sb
          replace BXL := BXL.below sb
          replace BEL := Below.chain BEL sb
          clear sb
          refine hK.out _ _ (⟨k1.cell0, k1.cell1, k2.cell0, k2.cell1⟩) (fun hHeld => ?_)
          clear hK K
          try simp only [Act.put, List.setIfInBounds_toArray, List.set_cons_zero, List.set_cons_succ]
          refine' wpAnyH_take (i := 5) (oi := ?oiz82) (v := ?vz82) ?haz82 (by kernel_rfl) ?hfz82 ?hrz82 ?hQz82 (Or.inl ⟨?hwz82, ?hyz82⟩) (by assumption) ?restz82
          case haz82 => (simp only [List.getElem?_toArray, List.getElem?_cons_succ, List.getElem?_cons_zero]; exact rfl)
          case hQz82 => exact fun _ _ _ h => h
          case hfz82 => kernel_rfl
          case hrz82 => kernel_rfl
          case hwz82 => rfl
          case hyz82 => (intro w hSw; (try dsimp only at hSw); obtain ⟨e1, e2, e3, e4⟩ := hSw; go_simp; (try with_reducible rfl))
          try simp only [Act.put, List.setIfInBounds_toArray, List.set_cons_zero, List.set_cons_succ]
          refine wpAnyH_ready (rs := [3]) (by kernel_rfl) (by simp) ?_
          refine' AllReadyH.cons (o := ?oiz90) ?haz90 (fun K hK => ?stepz90) AllReadyH.nil
          case haz90 => (simp only [List.getElem?_toArray, List.getElem?_cons_succ, List.getElem?_cons_zero]; exact rfl)
          go_simp
          go_at_call 41
          refine (mulK_calls lit4 p1 _ _ y35 LA i1 lit4_ok Q1.out O1.out).mono ?_
          rintro e y36 ⟨u1, rfl, h5, sb⟩
          have s5 := h5.isSl
          have U1 := h5.ints
          clear h5
          clear LA
          replace k1 := k1.below sb
          replace k2 := k2.below sb
          replace i1 := i1.below sb
          replace i2 := i2.below sb
          replace BXL := BXL.below sb
          replace LB := LB.below sb
          replace BEL := Below.chain BEL sb
          clear sb
          refine hK.out _ _ (⟨k1.cell0, k1.cell1, k2.cell0, k2.cell1⟩) (fun hHeld => ?_)
          clear hK K
          try simp only [Act.put, List.setIfInBounds_toArray, List.set_cons_zero, List.set_cons_succ]
          refine wpAnyH_ready (rs := [7]) (by kernel_rfl) (by simp) ?_
          refine' AllReadyH.cons (o := ?oiz89) ?haz89 (fun K hK => ?stepz89) AllReadyH.nil
          case haz89 => (simp only [List.getElem?_toArray, List.getElem?_cons_succ, List.getElem?_cons_zero]; exact rfl)
          go_simp
          go_at_call 41
          refine (mulK_calls litm p2 _ _ y36 LB i2 litm_ok Q2.out O2.out).mono ?_
          rintro e y37 ⟨u2, rfl, h6, sb⟩
          have s6 := h6.isSl
          have U2 := h6.ints
          clear h6
          clear LB
          replace k1 := k1.below sb
          replace k2 := k2.below sb
          replace i1 := i1.below sb
          replace i2 := i2.below sb
          replace BXL := BXL.below sb
          replace U1 := U1.below sb
          replace BEL := Below.chain BEL sb
          clear sb
          refine hK.out _ _ (⟨k1.cell0, k1.cell1, k2.cell0, k2.cell1⟩) (fun hHeld => ?_)
          clear hK K
          try simp only [Act.put, List.setIfInBounds_toArray, List.set_cons_zero, List.set_cons_succ]
          refine wpAnyH_ready (rs := [8]) (by kernel_rfl) (by simp) ?_
          refine' AllReadyH.cons (o := ?oiz88) ?haz88 (fun K hK => ?stepz88) AllReadyH.nil
          case haz88 => (simp only [List.getElem?_toArray, List.getElem?_cons_succ, List.getElem?_cons_zero]; exact rfl)
          go_simp
          go_at_call 40
          refine (sub_calls (pmul lit4 p1) (pmul litm p2) u1 u2 y37 U1 U2 O1.out O2.out (by rw [HLH.out]; exact O3.out)).mono ?_
          rintro e y38 ⟨v9, rfl, h9, sb⟩
          rw [HLH.out] at h9 ⊢
          have T9 := h9.low (B' := W0.heap.size) BEL.size
          have s9 := T9.isSl
          obtain ⟨x1, x2, x3, rfl, -⟩ := s9.cases
          clear h9
          clear U1 U2
          replace k1 := k1.below sb
          replace k2 := k2.below sb
          replace i1 := i1.below sb
          replace i2 := i2.below sb
          replace BXL := BXL.below sb
          replace BEL := Below.chain BEL sb
          clear sb
          refine hK.out _ _ (⟨k1.cell0, k1.cell1, k2.cell0, k2.cell1⟩) (fun hHeld => ?_)
          clear hK K
          try simp only [Act.put, List.setIfInBounds_toArray, List.set_cons_zero, List.set_cons_succ]
          refine' wpAnyH_take (i := 9) (oi := ?oiz83) (v := ?vz83) ?haz83 (by kernel_rfl) ?hfz83 ?hrz83 ?hQz83 (Or.inl ⟨?hwz83, ?hyz83⟩) (by assumption) ?restz83
          case haz83 => (simp only [List.getElem?_toArray, List.getElem?_cons_succ, List.getElem?_cons_zero]; exact rfl)
          case hQz83 => exact fun _ _ _ h => h
          case hfz83 => kernel_rfl
          case hrz83 => kernel_rfl
          case hwz83 => rfl
          case hyz83 => (intro w hSw; (try dsimp only at hSw); obtain ⟨e1, e2, e3, e4⟩ := hSw; go_simp; (try with_reducible rfl))
          try simp only [Act.put, List.setIfInBounds_toArray, List.set_cons_zero, List.set_cons_succ]
          refine' wpAnyH_take (i := 10) (oi := ?oiz84) (v := ?vz84) ?haz84 (by kernel_rfl) ?hfz84 ?hrz84 ?hQz84 (Or.inl ⟨?hwz84, ?hyz84⟩) (by assumption) ?restz84
          case haz84 => (simp only [List.getElem?_toArray, List.getElem?_cons_succ, List.getElem?_cons_zero]; exact rfl)
          case hQz84 => exact fun _ _ _ h => h
          case hfz84 => kernel_rfl
          case hrz84 => kernel_rfl
          case hwz84 => rfl
          case hyz84 => (intro w hSw; (try dsimp only at hSw); obtain ⟨e1, e2, e3, e4⟩ := hSw; go_simp; (try with_reducible rfl))
          try simp only [Act.put, List.setIfInBounds_toArray, List.set_cons_zero, List.set_cons_succ]
          refine' wpAnyH_take (i := 11) (oi := ?oiz85) (v := ?vz85) ?haz85 (by kernel_rfl) ?hfz85 ?hrz85 ?hQz85 (Or.inl ⟨?hwz85, ?hyz85⟩) (by assumption) ?restz85
          case haz85 => (simp only [List.getElem?_toArray, List.getElem?_cons_succ, List.getElem?_cons_zero]; exact rfl)
          case hQz85 => exact fun _ _ _ h => h
          case hfz85 => kernel_rfl
          case hrz85 => kernel_rfl
          case hwz85 => rfl
          case hyz85 => (intro w hSw; (try dsimp only at hSw); obtain ⟨e1, e2, e3, e4⟩ := hSw; go_simp; (try with_reducible rfl))
          try simp only [Act.put, List.setIfInBounds_toArray, List.set_cons_zero, List.set_cons_succ]
          refine wpAnyH_ready (rs := [13]) (by kernel_rfl) (by simp) ?_
          refine' AllReadyH.cons (o := ?oiz87) ?haz87 (fun K hK => ?stepz87) AllReadyH.nil
          case haz87 => (simp only [List.getElem?_toArray, List.getElem?_cons_succ, List.getElem?_cons_zero]; exact rfl)
          have f0 := BXL.free0; have f1 := BXL.free1; have b0 := BXL.cell0; have b1 := BXL.cell1
          go_simp

          clear f0 f1 b0 b1
          have k19 := (k1.other (C := bk) (by omega) 0 (.int .i64 lhs.low)).other (C := bk) (by omega) 1 (.slice x1 x2 x3)
          have k29 := (k2.other (C := bk) (by omega) 0 (.int .i64 lhs.low)).other (C := bk) (by omega) 1 (.slice x1 x2 x3)
          refine hK.out _ _ (⟨k19.cell0, k19.cell1, k29.cell0, k29.cell1⟩) (fun hHeld => ?_)
          clear hK K
          try simp only [Act.put, List.setIfInBounds_toArray, List.set_cons_zero, List.set_cons_succ]
          refine' wpAnyH_take (i := 14) (oi := ?oiz86) (v := ?vz86) ?haz86 (by kernel_rfl) ?hfz86 ?hrz86 ?hQz86 (Or.inl ⟨?hwz86, ?hyz86⟩) (by assumption) ?restz86
          case haz86 => (simp only [List.getElem?_toArray, List.getElem?_cons_succ, List.getElem?_cons_zero]; exact rfl)
          case hQz86 => exact fun _ _ _ h => h
          case hfz86 => kernel_rfl
          case hrz86 => kernel_rfl
          case hwz86 => rfl
          case hyz86 => (intro w hSw; (try dsimp only at hSw); obtain ⟨e1, e2, e3, e4⟩ := hSw; go_simp; (try with_reducible rfl))
          try simp only [Act.put, List.setIfInBounds_toArray, List.set_cons_zero, List.set_cons_succ]
          refine wpAnyH_done (by kernel_rfl) ?_ _
          have hne7 : ∀ b, Go.Sl.row (.slice x1 x2 x3) = some b → bk ≠ b := Own.ne_of_type (by decide) T9 BXL
          go_wp2_with fail
          go_meet
          case rel => exact ⟨bk, _, rfl, rfl, BXL.set _ _, ((T9.setOther (fun b hb => hne7 b hb) _).setOther (fun b hb => hne7 b hb) _).ints, (BEL.setCell (p := ⟨bk, 0, none⟩) hbk _).setCell (p := ⟨bk, 1, none⟩) hbk _⟩
    case stepz178 =>
      go_simp
      obtain ⟨y39, hy39⟩ : ∃ y39, y39 = World.alloc y0 (.cells #[.int .i64 1] 3) := ⟨_, rfl⟩
      rw [← hy39]
      have sb : Below (World.heap y0).size y0 y39 := by rw [hy39]; exact (Below.refl _ _).alloc (Nat.le_refl _) _
      have LB : Ints y39 (.slice (some ⟨y0.heap.size, 0, none⟩) 1 1) [1] := by rw [hy39]; exact ints_lit [1] rfl rfl rfl (by simp)
      clear hy39
      replace k1 := k1.below sb
      replace k2 := k2.below sb
      replace i1 := i1.below sb
      replace i2 := i2.below sb
      replace BEL := Below.chain BEL sb
      clear sb
      refine hK.out _ _ (⟨k1.cell0, k1.cell1, k2.cell0, k2.cell1⟩) (fun hHeld => ?_)
      clear hK K
      try simp only [Act.put, List.setIfInBounds_toArray, List.set_cons_zero, List.set_cons_succ]
      refine' wpAnyH_take (i := 5) (oi := ?oiz96) (v := ?vz96) ?haz96 (by kernel_rfl) ?hfz96 ?hrz96 ?hQz96 (Or.inl ⟨?hwz96, ?hyz96⟩) (by assumption) ?restz96
      case haz96 => (simp only [List.getElem?_toArray, List.getElem?_cons_succ, List.getElem?_cons_zero]; exact rfl)
      case hQz96 => exact fun _ _ _ h => h
      case hfz96 => kernel_rfl
      case hrz96 => kernel_rfl
      case hwz96 => rfl
      case hyz96 => (intro w hSw; (try dsimp only at hSw); obtain ⟨e1, e2, e3, e4⟩ := hSw; go_simp; (try with_reducible rfl))
      try simp only [Act.put, List.setIfInBounds_toArray, List.set_cons_zero, List.set_cons_succ]
      refine wpAnyH_ready (rs := [0, 12]) (by kernel_rfl) (by simp) ?_
      refine' AllReadyH.cons (o := ?oiz141) ?haz141 (fun K hK => ?stepz141) (AllReadyH.cons (o := ?oiz142) ?haz142 (fun K hK => ?stepz142) AllReadyH.nil)
      case haz141 => (simp only [List.getElem?_toArray, List.getElem?_cons_succ, List.getElem?_cons_zero]; exact rfl)
      case haz142 => (simp only [List.getElem?_toArray, List.getElem?_cons_succ, List.getElem?_cons_zero]; exact rfl)
      case stepz141 =>
        go_simp
        obtain ⟨y40, hy40⟩ : ∃ y40, y40 = World.alloc y39 (.cells #[.int .i64 1] 3) := ⟨_, rfl⟩
        rw [← hy40]
        have sb : Below (World.heap y39).size y39 y40 := by rw [hy40]; exact (Below.refl _ _).alloc (Nat.le_refl _) _
        have LA : Ints y40 (.slice (some ⟨y39.heap.size, 0, none⟩) 1 1) [1] := by rw [hy40]; exact ints_lit [1] rfl rfl rfl (by simp)
        clear hy40
        replace k1 := k1.below sb
        replace k2 := k2.below sb
        replace i1 := i1.below sb
        replace i2 := i2.below sb
        replace LB := LB.below sb
        replace BEL := Below.chain BEL sb
        clear sb
        refine hK.out _ _ (⟨k1.cell0, k1.cell1, k2.cell0, k2.cell1⟩) (fun hHeld => ?_)
        clear hK K
        try simp only [Act.put, List.setIfInBounds_toArray, List.set_cons_zero, List.set_cons_succ]
        refine' wpAnyH_take (i := 1) (oi := ?oiz97) (v := ?vz97) ?haz97 (by kernel_rfl) ?hfz97 ?hrz97 ?hQz97 (Or.inl ⟨?hwz97, ?hyz97⟩) (by assumption) ?restz97
        case haz97 => (simp only [List.getElem?_toArray, List.getElem?_cons_succ, List.getElem?_cons_zero]; exact rfl)
        case hQz97 => exact fun _ _ _ h => h
        case hfz97 => kernel_rfl
        case hrz97 => kernel_rfl
        case hwz97 => rfl
        case hyz97 => (intro w hSw; (try dsimp only at hSw); obtain ⟨e1, e2, e3, e4⟩ := hSw; go_simp; (try with_reducible rfl))
        try simp only [Act.put, List.setIfInBounds_toArray, List.set_cons_zero, List.set_cons_succ]
        refine wpAnyH_ready (rs := [3, 12]) (by kernel_rfl) (by simp) ?_
        refine' AllReadyH.cons (o := ?oiz129) ?haz129 (fun K hK => ?stepz129) (AllReadyH.cons (o := ?oiz130) ?haz130 (fun K hK => ?stepz130) AllReadyH.nil)
        case haz129 => (simp only [List.getElem?_toArray, List.getElem?_cons_succ, List.getElem?_cons_zero]; exact rfl)
        case haz130 => (simp only [List.getElem?_toArray, List.getElem?_cons_succ, List.getElem?_cons_zero]; exact rfl)
        case stepz129 =>
          go_simp
          go_at_call 41
          refine (mulK_calls lit4 p1 _ _ y40 LA i1 lit4_ok Q1.out O1.out).mono ?_
          rintro e y41 ⟨u1, rfl, h5, sb⟩
          have s5 := h5.isSl
          have U1 := h5.ints
          clear h5
          clear LA
          replace k1 := k1.below sb
          replace k2 := k2.below sb
          replace i1 := i1.below sb
          replace i2 := i2.below sb
          replace LB := LB.below sb
          replace BEL := Below.chain BEL sb
          clear sb
          refine hK.out _ _ (⟨k1.cell0, k1.cell1, k2.cell0, k2.cell1⟩) (fun hHeld => ?_)
          clear hK K
          try simp only [Act.put, List.setIfInBounds_toArray, List.set_cons_zero, List.set_cons_succ]
          refine wpAnyH_ready (rs := [7, 12]) (by kernel_rfl) (by simp) ?_
          refine' AllReadyH.cons (o := ?oiz119) ?haz119 (fun K hK => ?stepz119) (AllReadyH.cons (o := ?oiz120) ?haz120 (fun K hK => ?stepz120) AllReadyH.nil)
          case haz119 => (simp only [List.getElem?_toArray, List.getElem?_cons_succ, List.getElem?_cons_zero]; exact rfl)
          case haz120 => (simp only [List.getElem?_toArray, List.getElem?_cons_succ, List.getElem?_cons_zero]; exact rfl)
          case stepz119 =>
            go_simp
            go_at_call 41
            refine (mulK_calls litm p2 _ _ y41 LB i2 litm_ok Q2.out O2.out).mono ?_
            rintro e y42 ⟨u2, rfl, h6, sb⟩
            have s6 := h6.isSl
            have U2 := h6.ints
            clear h6
            clear LB
            replace k1 := k1.below sb
            replace k2 := k2.below sb
            replace i1 := i1.below sb
            replace i2 := i2.below sb
            replace U1 := U1.below sb
            replace BEL := Below.chain BEL sb
            clear sb
            refine hK.out _ _ (⟨k1.cell0, k1.cell1, k2.cell0, k2.cell1⟩) (fun hHeld => ?_)
            clear hK K
            try simp only [Act.put, List.setIfInBounds_toArray, List.set_cons_zero, List.set_cons_succ]
            refine wpAnyH_ready (rs := [8, 12]) (by kernel_rfl) (by simp) ?_
            refine' AllReadyH.cons (o := ?oiz110) ?haz110 (fun K hK => ?stepz110) (AllReadyH.cons (o := ?oiz111) ?haz111 (fun K hK => ?stepz111) AllReadyH.nil)
            case haz110 => (simp only [List.getElem?_toArray, List.getElem?_cons_succ, List.getElem?_cons_zero]; exact rfl)
            case haz111 => (simp only [List.getElem?_toArray, List.getElem?_cons_succ, List.getElem?_cons_zero]; exact rfl)
            case stepz110 =>
              go_simp
              go_at_call 40
              refine (sub_calls (pmul lit4 p1) (pmul litm p2) u1 u2 y42 U1 U2 O1.out O2.out (by rw [HLH.out]; exact O3.out)).mono ?_
              rintro e y43 ⟨v9, rfl, h9, sb⟩
              rw [HLH.out] at h9 ⊢
              have T9 := h9.low (B' := W0.heap.size) BEL.size
              have s9 := T9.isSl
              obtain ⟨x1, x2, x3, rfl, -⟩ := s9.cases
              clear h9
              clear U1 U2
              replace k1 := k1.below sb
              replace k2 := k2.below sb
              replace i1 := i1.below sb
              replace i2 := i2.below sb
              replace BEL := Below.chain BEL sb
              clear sb
              refine hK.out _ _ (⟨k1.cell0, k1.cell1, k2.cell0, k2.cell1⟩) (fun hHeld => ?_)
              clear hK K
              try simp only [Act.put, List.setIfInBounds_toArray, List.set_cons_zero, List.set_cons_succ]
              refine' wpAnyH_take (i := 9) (oi := ?oiz98) (v := ?vz98) ?haz98 (by kernel_rfl) ?hfz98 ?hrz98 ?hQz98 (Or.inl ⟨?hwz98, ?hyz98⟩) (by assumption) ?restz98
              case haz98 => (simp only [List.getElem?_toArray, List.getElem?_cons_succ, List.getElem?_cons_zero]; exact rfl)
              case hQz98 => exact fun _ _ _ h => h
              case hfz98 => kernel_rfl
              case hrz98 => kernel_rfl
              case hwz98 => rfl
              case hyz98 => (intro w hSw; (try dsimp only at hSw); obtain ⟨e1, e2, e3, e4⟩ := hSw; go_simp; (try with_reducible rfl))
              try simp only [Act.put, List.setIfInBounds_toArray, List.set_cons_zero, List.set_cons_succ]
              refine' wpAnyH_take (i := 10) (oi := ?oiz99) (v := ?vz99) ?haz99 (by kernel_rfl) ?hfz99 ?hrz99 ?hQz99 (Or.inl ⟨?hwz99, ?hyz99⟩) (by assumption) ?restz99
              case haz99 => (simp only [List.getElem?_toArray, List.getElem?_cons_succ, List.getElem?_cons_zero]; exact rfl)
              case hQz99 => exact fun _ _ _ h => h
              case hfz99 => kernel_rfl
              case hrz99 => kernel_rfl
              case hwz99 => rfl
              case hyz99 => (intro w hSw; (try dsimp only at hSw); obtain ⟨e1, e2, e3, e4⟩ := hSw; go_simp; (try with_reducible rfl))
              try simp only [Act.put, List.setIfInBounds_toArray, List.set_cons_zero, List.set_cons_succ]
              refine' wpAnyH_take (i := 11) (oi := ?oiz100) (v := ?vz100) ?haz100 (by kernel_rfl) ?hfz100 ?hrz100 ?hQz100 (Or.inl ⟨?hwz100, ?hyz100⟩) (by assumption) ?restz100
              case haz100 => (simp only [List.getElem?_toArray, List.getElem?_cons_succ, List.getElem?_cons_zero]; exact rfl)
              case hQz100 => exact fun _ _ _ h => h
              case hfz100 => kernel_rfl
              case hrz100 => kernel_rfl
              case hwz100 => rfl
              case hyz100 => (intro w hSw; (try dsimp only at hSw); obtain ⟨e1, e2, e3, e4⟩ := hSw; go_simp; (try with_reducible rfl))
              try simp only [Act.put, List.setIfInBounds_toArray, List.set_cons_zero, List.set_cons_succ]
              refine wpAnyH_ready (rs := [12]) (by kernel_rfl) (by simp) ?_
              refine' AllReadyH.cons (o := ?oiz103) ?haz103 (fun K hK => ?stepz103) AllReadyH.nil
              case haz103 => (simp only [List.getElem?_toArray, List.getElem?_cons_succ, List.getElem?_cons_zero]; exact rfl)
              go_simp
              obtain ⟨y44, hy44⟩ : ∃ y44, y44 = World.alloc y43 (.cells #[.int .i64 0, .slice none 0 0] 35) := ⟨_, rfl⟩
              rw [← hy44]
              have sb : Below (World.heap y43).size y43 y44 := by rw [hy44]; exact (Below.refl _ _).alloc (Nat.le_refl _) _
              have BXL : Pair y44 y43.heap.size 35 (.int .i64 0) (.slice none 0 0) := by rw [hy44]; exact pair_new _ _ _ _
              have hbk : W0.heap.size ≤ y43.heap.size := BEL.size
              obtain ⟨bk, hbk0⟩ : ∃ bk, bk = y43.heap.size := ⟨_, rfl⟩
              rw [← hbk0] at BXL hbk ⊢
              clear hbk0
              clear hy44
              replace k1 := k1.below sb
              replace k2 := k2.below sb
              replace i1 := i1.below sb
              replace i2 := i2.below sb
              replace T9 := T9.below sb
              replace BEL := Below.chain BEL sb
              clear sb
              refine hK.out _ _ (⟨k1.cell0, k1.cell1, k2.cell0, k2.cell1⟩) (fun hHeld => ?_)
              clear hK K
              try simp only [Act.put, List.setIfInBounds_toArray, List.set_cons_zero, List.set_cons_succ]
              refine wpAnyH_ready (rs := [13]) (by kernel_rfl) (by simp) ?_
              refine' AllReadyH.cons (o := ?oiz102) ?haz102 (fun K hK => ?stepz102) AllReadyH.nil
              case haz102 => (simp only [List.getElem?_toArray, List.getElem?_cons_succ, List.getElem?_cons_zero]; exact rfl)
              have f0 := BXL.free0; have f1 := BXL.free1; have b0 := BXL.cell0; have b1 := BXL.cell1
              go_simp

              clear f0 f1 b0 b1
              have k19 := (k1.other (C := bk) (by omega) 0 (.int .i64 lhs.low)).other (C := bk) (by omega) 1 (.slice x1 x2 x3)
              have k29 := (k2.other (C := bk) (by omega) 0 (.int .i64 lhs.low)).other (C := bk) (by omega) 1 (.slice x1 x2 x3)
              refine hK.out _ _ (⟨k19.cell0, k19.cell1, k29.cell0, k29.cell1⟩) (fun hHeld => ?_)
              clear hK K
              try simp only [Act.put, List.setIfInBounds_toArray, List.set_cons_zero, List.set_cons_succ]
              refine' wpAnyH_take (i := 14) (oi := ?oiz101) (v := ?vz101) ?haz101 (by kernel_rfl) ?hfz101 ?hrz101 ?hQz101 (Or.inl ⟨?hwz101, ?hyz101⟩) (by assumption) ?restz101
              case haz101 => (simp only [List.getElem?_toArray, List.getElem?_cons_succ, List.getElem?_cons_zero]; exact rfl)
              case hQz101 => exact fun _ _ _ h => h
              case hfz101 => kernel_rfl
              case hrz101 => kernel_rfl
              case hwz101 => rfl
              case hyz101 => (intro w hSw; (try dsimp only at hSw); obtain ⟨e1, e2, e3, e4⟩ := hSw; go_simp; (try with_reducible rfl))
              try simp only [Act.put, List.setIfInBounds_toArray, List.set_cons_zero, List.set_cons_succ]
              refine wpAnyH_done (by kernel_rfl) ?_ _
              have hne7 : ∀ b, Go.Sl.row (.slice x1 x2 x3) = some b → bk ≠ b := Own.ne_of_type (by decide) T9 BXL
              go_wp2_with fail
              go_meet
              case rel => exact ⟨bk, _, rfl, rfl, BXL.set _ _, ((T9.setOther (fun b hb => hne7 b hb) _).setOther (fun b hb => hne7 b hb) _).ints, (BEL.setCell (p := ⟨bk, 0, none⟩) hbk _).setCell (p := ⟨bk, 1, none⟩) hbk _⟩
            case stepz111 =>
              go_simp
              obtain ⟨y45, hy45⟩ : ∃ y45, y45 = World.alloc y42 (.cells #[.int .i64 0, .slice none 0 0] 35) := ⟨_, rfl⟩
              rw [← hy45]
              have sb : Below (World.heap y42).size y42 y45 := by rw [hy45]; exact (Below.refl _ _).alloc (Nat.le_refl _) _
              have BXL : Pair y45 y42.heap.size 35 (.int .i64 0) (.slice none 0 0) := by rw [hy45]; exact pair_new _ _ _ _
              have hbk : W0.heap.size ≤ y42.heap.size := BEL.size
              obtain ⟨bk, hbk0⟩ : ∃ bk, bk = y42.heap.size := ⟨_, rfl⟩
              rw [← hbk0] at BXL hbk ⊢
              clear hbk0
              clear hy45
              replace k1 := k1.below sb
              replace k2 := k2.below sb
              replace i1 := i1.below sb
              replace i2 := i2.below sb
              replace U1 := U1.below sb
              replace U2 := U2.below sb
              replace BEL := Below.chain BEL sb
              clear sb
              refine hK.out _ _ (⟨k1.cell0, k1.cell1, k2.cell0, k2.cell1⟩) (fun hHeld => ?_)
              clear hK K
              try simp only [Act.put, List.setIfInBounds_toArray, List.set_cons_zero, List.set_cons_succ]
              refine wpAnyH_ready (rs := [8]) (by kernel_rfl) (by simp) ?_
              refine' AllReadyH.cons (o := ?oiz109) ?haz109 (fun K hK => ?stepz109) AllReadyH.nil
              case haz109 => (simp only [List.getElem?_toArray, List.getElem?_cons_succ, List.getElem?_cons_zero]; exact rfl)
              go_simp
              go_at_call 40
              refine (sub_calls (pmul lit4 p1) (pmul litm p2) u1 u2 y45 U1 U2 O1.out O2.out (by rw [HLH.out]; exact O3.out)).mono ?_
              rintro e y46 ⟨v9, rfl, h9, sb⟩
              rw [HLH.out] at h9 ⊢
              have T9 := h9.low (B' := W0.heap.size) BEL.size
              have s9 := T9.isSl
              obtain ⟨x1, x2, x3, rfl, -⟩ := s9.cases
              clear h9
              clear U1 U2
              replace k1 := k1.below sb
              replace k2 := k2.below sb
              replace i1 := i1.below sb
              replace i2 := i2.below sb
              replace BXL := BXL.below sb
              replace BEL := Below.chain BEL sb
              clear sb
              refine hK.out _ _ (⟨k1.cell0, k1.cell1, k2.cell0, k2.cell1⟩) (fun hHeld => ?_)
              clear hK K
              try simp only [Act.put, List.setIfInBounds_toArray, List.set_cons_zero, List.set_cons_succ]
              refine' wpAnyH_take (i := 9) (oi := ?oiz104) (v := ?vz104) ?haz104 (by kernel_rfl) ?hfz104 ?hrz104 ?hQz104 (Or.inl ⟨?hwz104, ?hyz104⟩) (by assumption) ?restz104
              case haz104 => (simp only [List.getElem?_toArray, List.getElem?_cons_succ, List.getElem?_cons_zero]; exact rfl)
              case hQz104 => exact fun _ _ _ h => h
              case hfz104 => kernel_rfl
              case hrz104 => kernel_rfl
              case hwz104 => rfl
              case hyz104 => (intro w hSw; (try dsimp only at hSw); obtain ⟨e1, e2, e3, e4⟩ := hSw; go_simp; (try with_reducible rfl))
              try simp only [Act.put, List.setIfInBounds_toArray, List.set_cons_zero, List.set_cons_succ]
              refine' wpAnyH_take (i := 10) (oi := ?oiz105) (v := ?vz105) ?haz105 (by kernel_rfl) ?hfz105 ?hrz105 ?hQz105 (Or.inl ⟨?hwz105, ?hyz105⟩) (by assumption) ?restz105
              case haz105 => (simp only [List.getElem?_toArray, List.getElem?_cons_succ, List.getElem?_cons_zero]; exact rfl)
              case hQz105 => exact fun _ _ _ h => h
              case hfz105 => kernel_rfl
              case hrz105 => kernel_rfl
              case hwz105 => rfl
              case hyz105 => (intro w hSw; (try dsimp only at hSw); obtain ⟨e1, e2, e3, e4⟩ := hSw; go_simp; (try with_reducible rfl))
              try simp only [Act.put, List.setIfInBounds_toArray, List.set_cons_zero, List.set_cons_succ]
              refine' wpAnyH_take (i := 11) (oi := ?oiz106) (v := ?vz106) ?haz106 (by kernel_rfl) ?hfz106 ?hrz106 ?hQz106 (Or.inl ⟨?hwz106, ?hyz106⟩) (by assumption) ?restz106
              case haz106 => (simp only [List.getElem?_toArray, List.getElem?_cons_succ, List.getElem?_cons_zero]; exact rfl)
              case hQz106 => exact fun _ _ _ h => h
              case hfz106 => kernel_rfl
              case hrz106 => kernel_rfl
              case hwz106 => rfl
              case hyz106 => (intro w hSw; (try dsimp only at hSw); obtain ⟨e1, e2, e3, e4⟩ := hSw; go_simp; (try with_reducible rfl))
              try simp only [Act.put, List.setIfInBounds_toArray, List.set_cons_zero, List.set_cons_succ]
              refine wpAnyH_ready (rs := [13]) (by kernel_rfl) (by simp) ?_
              refine' AllReadyH.cons (o := ?oiz108) ?haz108 (fun K hK => ?stepz108) AllReadyH.nil
              case haz108 => (simp only [List.getElem?_toArray, List.getElem?_cons_succ, List.getElem?_cons_zero]; exact rfl)
              have f0 := BXL.free0; have f1 := BXL.free1; have b0 := BXL.cell0; have b1 := BXL.cell1
              go_simp

              clear f0 f1 b0 b1
              have k19 := (k1.other (C := bk) (by omega) 0 (.int .i64 lhs.low)).other (C := bk) (by omega) 1 (.slice x1 x2 x3)
              have k29 := (k2.other (C := bk) (by omega) 0 (.int .i64 lhs.low)).other (C := bk) (by omega) 1 (.slice x1 x2 x3)
              refine hK.out _ _ (⟨k19.cell0, k19.cell1, k29.cell0, k29.cell1⟩) (fun hHeld => ?_)
              clear hK K
              try simp only [Act.put, List.setIfInBounds_toArray, List.set_cons_zero, List.set_cons_succ]
              refine' wpAnyH_take (i := 14) (oi := ?oiz107) (v := ?vz107) ?haz107 (by kernel_rfl) ?hfz107 ?hrz107 ?hQz107 (Or.inl ⟨?hwz107, ?hyz107⟩) (by assumption) ?restz107
              case haz107 => (simp only [List.getElem?_toArray, List.getElem?_cons_succ, List.getElem?_cons_zero]; exact rfl)
              case hQz107 => exact fun _ _ _ h => h
              case hfz107 => kernel_rfl
              case hrz107 => kernel_rfl
              case hwz107 => rfl
              case hyz107 => (intro w hSw; (try dsimp only at hSw); obtain ⟨e1, e2, e3, e4⟩ := hSw; go_simp; (try with_reducible rfl))
              try simp only [Act.put, List.setIfInBounds_toArray, List.set_cons_zero, List.set_cons_succ]
              refine wpAnyH_done (by kernel_rfl) ?_ _
              have hne7 : ∀ b, Go.Sl.row (.slice x1 x2 x3) = some b → bk ≠ b := Own.ne_of_type (by decide) T9 BXL
              go_wp2_with fail
              go_meet
              case rel => exact ⟨bk, _, rfl, rfl, BXL.set _ _, ((T9.setOther (fun b hb => hne7 b hb) _).setOther (fun b hb => hne7 b hb) _).ints, (BEL.setCell (p := ⟨bk, 0, none⟩) hbk _).setCell (p := ⟨bk, 1, none⟩) hbk _⟩
          case stepz120 =>
            go_simp
            obtain ⟨y47, hy47⟩ : ∃ y47, y47 = World.alloc y41 (.cells #[.int .i64 0, .slice none 0 0] 35) := ⟨_, rfl⟩
            rw [← hy47]
            have sb : Below (World.heap y41).size y41 y47 := by rw [hy47]; exact (Below.refl _ _).alloc (Nat.le_refl _) _
            have BXL : Pair y47 y41.heap.size 35 (.int .i64 0) (.slice none 0 0) := by rw [hy47]; exact pair_new _ _ _ _
            have hbk : W0.heap.size ≤ y41.heap.size := BEL.size
            obtain ⟨bk, hbk0⟩ : ∃ bk, bk = y41.heap.size := ⟨_, rfl⟩
            rw [← hbk0] at BXL hbk ⊢
            clear hbk0
            clear hy47
            replace k1 := k1.below sb
            replace k2 := k2.below sb
            replace i1 := i1.below sb
            replace i2 := i2.below sb
            replace LB := LB.below sb
            replace U1 := U1.below sb
            replace BEL := Below.chain BEL sb
            clear sb
            refine hK.out _ _ (⟨k1.cell0, k1.cell1, k2.cell0, k2.cell1⟩) (fun hHeld => ?_)
            clear hK K
            try simp only [Act.put, List.setIfInBounds_toArray, List.set_cons_zero, List.set_cons_succ]
            refine wpAnyH_ready (rs := [7]) (by kernel_rfl) (by simp) ?_
            refine' AllReadyH.cons (o := ?oiz118) ?haz118 (fun K hK => ?stepz118) AllReadyH.nil
            case haz118 => (simp only [List.getElem?_toArray, List.getElem?_cons_succ, List.getElem?_cons_zero]; exact rfl)
            go_simp
            go_at_call 41
            refine (mulK_calls litm p2 _ _ y47 LB i2 litm_ok Q2.out O2.out).mono ?_
            rintro e y48 ⟨u2, rfl, h6, sb⟩
            have s6 := h6.isSl
            have U2 := h6.ints
            clear h6
            clear LB
            replace k1 := k1.below sb
            replace k2 := k2.below sb
            replace i1 := i1.below sb
            replace i2 := i2.below sb
            replace U1 := U1.below sb
            replace BXL := BXL.below sb
            replace BEL := Below.chain BEL sb
            clear sb
            refine hK.out _ _ (⟨k1.cell0, k1.cell1, k2.cell0, k2.cell1⟩) (fun hHeld => ?_)
            clear hK K
            try simp only [Act.put, List.setIfInBounds_toArray, List.set_cons_zero, List.set_cons_succ]
            refine wpAnyH_ready (rs := [8]) (by kernel_rfl) (by simp) ?_
            refine' AllReadyH.cons (o := ?oiz117) ?haz117 (fun K hK => ?stepz117) AllReadyH.nil
            case haz117 => (simp only [List.getElem?_toArray, List.getElem?_cons_succ, List.getElem?_cons_zero]; exact rfl)
            go_simp
            go_at_call 40
            refine (sub_calls (pmul lit4 p1) (pmul litm p2) u1 u2 y48 U1 U2 O1.out O2.out (by rw [HLH.out]; exact O3.out)).mono ?_
            rintro e y49 ⟨v9, rfl, h9, sb⟩
            rw [HLH.out] at h9 ⊢
            have T9 := h9.low (B' := W0.heap.size) BEL.size
            have s9 := T9.isSl
            obtain ⟨x1, x2, x3, rfl, -⟩ := s9.cases
            clear h9
            clear U1 U2
            replace k1 := k1.below sb
            replace k2 := k2.below sb
            replace i1 := i1.below sb
            replace i2 := i2.below sb
            replace BXL := BXL.below sb
            replace BEL := Below.chain BEL sb
            clear sb
            refine hK.out _ _ (⟨k1.cell0, k1.cell1, k2.cell0, k2.cell1⟩) (fun hHeld => ?_)
            clear hK K
            try simp only [Act.put, List.setIfInBounds_toArray, List.set_cons_zero, List.set_cons_succ]
            refine' wpAnyH_take (i := 9) (oi := ?oiz112) (v := ?vz112) ?haz112 (by kernel_rfl) ?hfz112 ?hrz112 ?hQz112 (Or.inl ⟨?hwz112, ?hyz112⟩) (by assumption) ?restz112
            case haz112 => (simp only [List.getElem?_toArray, List.getElem?_cons_succ, List.getElem?_cons_zero]; exact rfl)
            case hQz112 => exact fun _ _ _ h => h
            case hfz112 => kernel_rfl
            case hrz112 => kernel_rfl
            case hwz112 => rfl
            case hyz112 => (intro w hSw; (try dsimp only at hSw); obtain ⟨e1, e2, e3, e4⟩ := hSw; go_simp; (try with_reducible rfl))
            try simp only [Act.put, List.setIfInBounds_toArray, List.set_cons_zero, List.set_cons_succ]
            refine' wpAnyH_take (i := 10) (oi := ?oiz113) (v := ?vz113) ?haz113 (by kernel_rfl) ?hfz113 ?hrz113 ?hQz113 (Or.inl ⟨?hwz113, ?hyz113⟩) (by assumption) ?restz113
            case haz113 => (simp only [List.getElem?_toArray, List.getElem?_cons_succ, List.getElem?_cons_zero]; exact rfl)
            case hQz113 => exact fun _ _ _ h => h
            case hfz113 => kernel_rfl
            case hrz113 => kernel_rfl
            case hwz113 => rfl
            case hyz113 => (intro w hSw; (try dsimp only at hSw); obtain ⟨e1, e2, e3, e4⟩ := hSw; go_simp; (try with_reducible rfl))
            try simp only [Act.put, List.setIfInBounds_toArray, List.set_cons_zero, List.set_cons_succ]
            refine' wpAnyH_take (i := 11) (oi := ?oiz114) (v := ?vz114) ?haz114 (by kernel_rfl) ?hfz114 ?hrz114 ?hQz114 (Or.inl ⟨?hwz114, ?hyz114⟩) (by assumption) ?restz114
            case haz114 => (simp only [List.getElem?_toArray, List.getElem?_cons_succ, List.getElem?_cons_zero]; exact rfl)
            case hQz114 => exact fun _ _ _ h => h
            case hfz114 => kernel_rfl
            case hrz114 => kernel_rfl
            case hwz114 => rfl
            case hyz114 => (intro w hSw; (try dsimp only at hSw); obtain ⟨e1, e2, e3, e4⟩ := hSw; go_simp; (try with_reducible rfl))
            try simp only [Act.put, List.setIfInBounds_toArray, List.set_cons_zero, List.set_cons_succ]
            refine wpAnyH_ready (rs := [13]) (by kernel_rfl) (by simp) ?_
            refine' AllReadyH.cons (o := ?oiz116) ?haz116 (fun K hK => ?stepz116) AllReadyH.nil
            case haz116 => (simp only [List.getElem?_toArray, List.getElem?_cons_succ, List.getElem?_cons_zero]; exact rfl)
            have f0 := BXL.free0; have f1 := BXL.free1; have b0 := BXL.cell0; have b1 := BXL.cell1
            go_simp

            clear f0 f1 b0 b1
            have k19 := (k1.other (C := bk) (by omega) 0 (.int .i64 lhs.low)).other (C := bk) (by omega) 1 (.slice x1 x2 x3)
            have k29 := (k2.other (C := bk) (by omega) 0 (.int .i64 lhs.low)).other (C := bk) (by omega) 1 (.slice x1 x2 x3)
            refine hK.out _ _ (⟨k19.cell0, k19.cell1, k29.cell0, k29.cell1⟩) (fun hHeld => ?_)
            clear hK K
            try simp only [Act.put, List.setIfInBounds_toArray, List.set_cons_zero, List.set_cons_succ]
            refine' wpAnyH_take (i := 14) (oi := ?oiz115) (v := ?vz115) ?haz115 (by kernel_rfl) ?hfz115 ?hrz115 ?hQz115 (Or.inl ⟨?hwz115, ?hyz115⟩) (by assumption) ?restz115
            case haz115 => (simp only [List.getElem?_toArray, List.getElem?_cons_succ, List.getElem?_cons_zero]; exact rfl)
            case hQz115 => exact fun _ _ _ h => h
            case hfz115 => kernel_rfl
            case hrz115 => kernel_rfl
            case hwz115 => rfl
            case hyz115 => (intro w hSw; (try dsimp only at hSw); obtain ⟨e1, e2, e3, e4⟩ := hSw; go_simp; (try with_reducible rfl))
            try simp only [Act.put, List.setIfInBounds_toArray, List.set_cons_zero, List.set_cons_succ]
            refine wpAnyH_done (by kernel_rfl) ?_ _
            have hne7 : ∀ b, Go.Sl.row (.slice x1 x2 x3) = some b → bk ≠ b := Own.ne_of_type (by decide) T9 BXL
            go_wp2_with fail
            go_meet
            case rel => exact ⟨bk, _, rfl, rfl, BXL.set _ _, ((T9.setOther (fun b hb => hne7 b hb) _).setOther (fun b hb => hne7 b hb) _).ints, (BEL.setCell (p := ⟨bk, 0, none⟩) hbk _).setCell (p := ⟨bk, 1, none⟩) hbk _⟩
        case stepz130 =>
          go_simp
          obtain ⟨y50, hy50⟩ : ∃ y50, y50 = World.alloc y40 (.cells #[.int .i64 0, .slice none 0 0] 35) := ⟨_, rfl⟩
          rw [← hy50]
          have sb : Below (World.heap y40).size y40 y50 := by rw [hy50]; exact (Below.refl _ _).alloc (Nat.le_refl _) _
          have BXL : Pair y50 y40.heap.size 35 (.int .i64 0) (.slice none 0 0) := by rw [hy50]; exact pair_new _ _ _ _
          have hbk : W0.heap.size ≤ y40.heap.size := BEL.size
          obtain ⟨bk, hbk0⟩ : ∃ bk, bk = y40.heap.size := ⟨_, rfl⟩
          rw [← hbk0] at BXL hbk ⊢
          clear hbk0
          clear hy50
          replace k1 := k1.below sb
          replace k2 := k2.below sb
          replace i1 := i1.below sb
          replace i2 := i2.below sb
          replace LB := LB.below sb
          replace LA := LA.below sb
          replace BEL := Below.chain BEL sb
          clear sb
          refine hK.out _ _ (⟨k1.cell0, k1.cell1, k2.cell0, k2.cell1⟩) (fun hHeld => ?_)
          clear hK K
          try simp only [Act.put, List.setIfInBounds_toArray, List.set_cons_zero, List.set_cons_succ]
          refine wpAnyH_ready (rs := [3]) (by kernel_rfl) (by simp) ?_
          refine' AllReadyH.cons (o := ?oiz128) ?haz128 (fun K hK => ?stepz128) AllReadyH.nil
          case haz128 => (simp only [List.getElem?_toArray, List.getElem?_cons_succ, List.getElem?_cons_zero]; exact rfl)
          go_simp
          go_at_call 41
          refine (mulK_calls lit4 p1 _ _ y50 LA i1 lit4_ok Q1.out O1.out).mono ?_
          rintro e y51 ⟨u1, rfl, h5, sb⟩
          have s5 := h5.isSl
          have U1 := h5.ints
          clear h5
          clear LA
          replace k1 := k1.below sb
          replace k2 := k2.below sb
          replace i1 := i1.below sb
          replace i2 := i2.below sb
          replace LB := LB.below sb
          replace BXL := BXL.below sb
          replace BEL := Below.chain BEL sb
          clear sb
          refine hK.out _ _ (⟨k1.cell0, k1.cell1, k2.cell0, k2.cell1⟩) (fun hHeld => ?_)
          clear hK K
          try simp only [Act.put, List.setIfInBounds_toArray, List.set_cons_zero, List.set_cons_succ]
          refine wpAnyH_ready (rs := [7]) (by kernel_rfl) (by simp) ?_
          refine' AllReadyH.cons (o := ?oiz127) ?haz127 (fun K hK => ?stepz127) AllReadyH.nil
          case haz127 => (simp only [List.getElem?_toArray, List.getElem?_cons_succ, List.getElem?_cons_zero]; exact rfl)
          go_simp
          go_at_call 41
          refine (mulK_calls litm p2 _ _ y51 LB i2 litm_ok Q2.out O2.out).mono ?_
          rintro e y52 ⟨u2, rfl, h6, sb⟩
          have s6 := h6.isSl
          have U2 := h6.ints
          clear h6
          clear LB
          replace k1 := k1.below sb
          replace k2 := k2.below sb
          replace i1 := i1.below sb
          replace i2 := i2.below sb
          replace BXL := BXL.below sb
          replace U1 := U1.below sb
          replace BEL := Below.chain BEL sb
          clear sb
          refine hK.out _ _ (⟨k1.cell0, k1.cell1, k2.cell0, k2.cell1⟩) (fun hHeld => ?_)
          clear hK K
          try simp only [Act.put, List.setIfInBounds_toArray, List.set_cons_zero, List.set_cons_succ]
          refine wpAnyH_ready (rs := [8]) (by kernel_rfl) (by simp) ?_
          refine' AllReadyH.cons (o := ?oiz126) ?haz126 (fun K hK => ?stepz126) AllReadyH.nil
          case haz126 => (simp only [List.getElem?_toArray, List.getElem?_cons_succ, List.getElem?_cons_zero]; exact rfl)
          go_simp
          go_at_call 40
          refine (sub_calls (pmul lit4 p1) (pmul litm p2) u1 u2 y52 U1 U2 O1.out O2.out (by rw [HLH.out]; exact O3.out)).mono ?_
          rintro e y53 ⟨v9, rfl, h9, sb⟩
          rw [HLH.out] at h9 ⊢
          have T9 := h9.low (B' := W0.heap.size) BEL.size
          have s9 := T9.isSl
          obtain ⟨x1, x2, x3, rfl, -⟩ := s9.cases
          clear h9
          clear U1 U2
          replace k1 := k1.below sb
          replace k2 := k2.below sb
          replace i1 := i1.below sb
          replace i2 := i2.below sb
          replace BXL := BXL.below sb
          replace BEL := Below.chain BEL sb
          clear sb
          refine hK.out _ _ (⟨k1.cell0, k1.cell1, k2.cell0, k2.cell1⟩) (fun hHeld => ?_)
          clear hK K
          try simp only [Act.put, List.setIfInBounds_toArray, List.set_cons_zero, List.set_cons_succ]
          refine' wpAnyH_take (i := 9) (oi := ?oiz121) (v := ?vz121) ?haz121 (by kernel_rfl) ?hfz121 ?hrz121 ?hQz121 (Or.inl ⟨?hwz121, ?hyz121⟩) (by assumption) ?restz121
          case haz121 => (simp only [List.getElem?_toArray, List.getElem?_cons_succ, List.getElem?_cons_zero]; exact rfl)
          case hQz121 => exact fun _ _ _ h => h
          case hfz121 => kernel_rfl
          case hrz121 => kernel_rfl
          case hwz121 => rfl
          case hyz121 => (intro w hSw; (try dsimp only at hSw); obtain ⟨e1, e2, e3, e4⟩ := hSw; go_simp; (try with_reducible rfl))
          try simp only [Act.put, List.setIfInBounds_toArray, List.set_cons_zero, List.set_cons_succ]
          refine' wpAnyH_take (i := 10) (oi := ?oiz122) (v := ?vz122) ?haz122 (by kernel_rfl) ?hfz122 ?hrz122 ?hQz122 (Or.inl ⟨?hwz122, ?hyz122⟩) (by assumption) ?restz122
          case haz122 => (simp only [List.getElem?_toArray, List.getElem?_cons_succ, List.getElem?_cons_zero]; exact rfl)
          case hQz122 => exact fun _ _ _ h => h
          case hfz122 => kernel_rfl
          case hrz122 => kernel_rfl
          case hwz122 => rfl
          case hyz122 => (intro w hSw; (try dsimp only at hSw); obtain ⟨e1, e2, e3, e4⟩ := hSw; go_simp; (try with_reducible rfl))
          try simp only [Act.put, List.setIfInBounds_toArray, List.set_cons_zero, List.set_cons_succ]
          refine' wpAnyH_take (i := 11) (oi := ?oiz123) (v := ?vz123) ?haz123 (by kernel_rfl) ?hfz123 ?hrz123 ?hQz123 (Or.inl ⟨?hwz123, ?hyz123⟩) (by assumption) ?restz123
          case haz123 => (simp only [List.getElem?_toArray, List.getElem?_cons_succ, List.getElem?_cons_zero]; exact rfl)
          case hQz123 => exact fun _ _ _ h => h
          case hfz123 => kernel_rfl
          case hrz123 => kernel_rfl
          case hwz123 => rfl
          case hyz123 => (intro w hSw; (try dsimp only at hSw); obtain ⟨e1, e2, e3, e4⟩ := hSw; go_simp; (try with_reducible rfl))
          try simp only [Act.put, List.setIfInBounds_toArray, List.set_cons_zero, List.set_cons_succ]
          refine wpAnyH_ready (rs := [13]) (by kernel_rfl) (by simp) ?_
          refine' AllReadyH.cons (o := ?oiz125) ?haz125 (fun K hK => ?stepz125) AllReadyH.nil
          case haz125 => (simp only [List.getElem?_toArray, List.getElem?_cons_succ, List.getElem?_cons_zero]; exact rfl)
          have f0 := BXL.free0; have f1 := BXL.free1; have b0 := BXL.cell0; have b1 := BXL.cell1
          go_simp

          clear f0 f1 b0 b1
          have k19 := (k1.other (C := bk) (by omega) 0 (.int .i64 lhs.low)).other (C := bk) (by omega) 1 (.slice x1 x2 x3)
          have k29 := (k2.other (C := bk) (by omega) 0 (.int .i64 lhs.low)).other (C := bk) (by omega) 1 (.slice x1 x2 x3)
          refine hK.out _ _ (⟨k19.cell0, k19.cell1, k29.cell0, k29.cell1⟩) (fun hHeld => ?_)
          clear hK K
          try simp only [Act.put, List.setIfInBounds_toArray, List.set_cons_zero, List.set_cons_succ]
          refine' wpAnyH_take (i := 14) (oi := ?oiz124) (v := ?vz124) ?haz124 (by kernel_rfl) ?hfz124 ?hrz124 ?hQz124 (Or.inl ⟨?hwz124, ?hyz124⟩) (by assumption) ?restz124
          case haz124 => (simp only [List.getElem?_toArray, List.getElem?_cons_succ, List.getElem?_cons_zero]; exact rfl)
          case hQz124 => exact fun _ _ _ h => h
          case hfz124 => kernel_rfl
          case hrz124 => kernel_rfl
          case hwz124 => rfl
          case hyz124 => (intro w hSw; (try dsimp only at hSw); obtain ⟨e1, e2, e3, e4⟩ := hSw; go_simp; (try with_reducible rfl))
          try simp only [Act.put, List.setIfInBounds_toArray, List.set_cons_zero, List.set_cons_succ]
          refine wpAnyH_done (by kernel_rfl) ?_ _
          have hne7 : ∀ b, Go.Sl.row (.slice x1 x2 x3) = some b → bk ≠ b := Own.ne_of_type (by decide) T9 BXL
          go_wp2_with fail
          go_meet
          case rel => exact ⟨bk, _, rfl, rfl, BXL.set _ _, ((T9.setOther (fun b hb => hne7 b hb) _).setOther (fun b hb => hne7 b hb) _).ints, (BEL.setCell (p := ⟨bk, 0, none⟩) hbk _).setCell (p := ⟨bk, 1, none⟩) hbk _⟩
      case stepz142 =>
        go_simp
        obtain ⟨y54, hy54⟩ : ∃ y54, y54 = World.alloc y39 (.cells #[.int .i64 0, .slice none 0 0] 35) := ⟨_, rfl⟩
        rw [← hy54]
        have sb : Below (World.heap y39).size y39 y54 := by rw [hy54]; exact (Below.refl _ _).alloc (Nat.le_refl _) _
        have BXL : Pair y54 y39.heap.size 35 (.int .i64 0) (.slice none 0 0) := by rw [hy54]; exact pair_new _ _ _ _
        have hbk : W0.heap.size ≤ y39.heap.size := BEL.size
        obtain ⟨bk, hbk0⟩ : ∃ bk, bk = y39.heap.size := ⟨_, rfl⟩
        rw [← hbk0] at BXL hbk ⊢
        clear hbk0
        clear hy54
        replace k1 := k1.below sb
        replace k2 := k2.below sb
        replace i1 := i1.below sb
        replace i2 := i2.below sb
        replace LB := LB.below sb
        replace BEL := Below.chain BEL sb
        clear sb
        refine hK.out _ _ (⟨k1.cell0, k1.cell1, k2.cell0, k2.cell1⟩) (fun hHeld => ?_)
        clear hK K
        try simp only [Act.put, List.setIfInBounds_toArray, List.set_cons_zero, List.set_cons_succ]
        refine wpAnyH_ready (rs := [0]) (by kernel_rfl) (by simp) ?_
        refine' AllReadyH.cons (o := ?oiz140) ?haz140 (fun K hK => ?stepz140) AllReadyH.nil
        case haz140 => (simp only [List.getElem?_toArray, List.getElem?_cons_succ, List.getElem?_cons_zero]; exact rfl)
        go_simp
        obtain ⟨y55, hy55⟩ : ∃ y55, y55 = World.alloc y54 (.cells #[.int .i64 1] 3) := ⟨_, rfl⟩
        rw [← hy55]
        have sb : Below (World.heap y54).size y54 y55 := by rw [hy55]; exact (Below.refl _ _).alloc (Nat.le_refl _) _
        have LA : Ints y55 (.slice (some ⟨y54.heap.size, 0, none⟩) 1 1) [1] := by rw [hy55]; exact ints_lit [1] rfl rfl rfl (by simp)
        clear hy55
        replace k1 := k1.below sb
        replace k2 := k2.below sb
        replace i1 := i1.below sb
        replace i2 := i2.below sb
        replace LB := LB.below sb
        replace BXL := BXL.below sb
        replace BEL := Below.chain BEL sb
        clear sb
        refine hK.out _ _ (⟨k1.cell0, k1.cell1, k2.cell0, k2.cell1⟩) (fun hHeld => ?_)
        clear hK K
        try simp only [Act.put, List.setIfInBounds_toArray, List.set_cons_zero, List.set_cons_succ]
        refine' wpAnyH_take (i := 1) (oi := ?oiz131) (v := ?vz131) ?haz131 (by kernel_rfl) ?hfz131 ?hrz131 ?hQz131 (Or.inl ⟨?hwz131, ?hyz131⟩) (by assumption) ?restz131
        case haz131 => (simp only [List.getElem?_toArray, List.getElem?_cons_succ, List.getElem?_cons_zero]; exact rfl)
        case hQz131 => exact fun _ _ _ h => h
        case hfz131 => kernel_rfl
        case hrz131 => kernel_rfl
        case hwz131 => rfl
        case hyz131 => (intro w hSw; (try dsimp only at hSw); obtain ⟨e1, e2, e3, e4⟩ := hSw; go_simp; (try with_reducible rfl))
        try simp only [Act.put, List.setIfInBounds_toArray, List.set_cons_zero, List.set_cons_succ]
        refine wpAnyH_ready (rs := [3]) (by kernel_rfl) (by simp) ?_
        refine' AllReadyH.cons (o := ?oiz139) ?haz139 (fun K hK => ?stepz139) AllReadyH.nil
        case haz139 => (simp only [List.getElem?_toArray, List.getElem?_cons_succ, List.getElem?_cons_zero]; exact rfl)
        go_simp
        go_at_call 41
        refine (mulK_calls lit4 p1 _ _ y55 LA i1 lit4_ok Q1.out O1.out).mono ?_
        rintro e y56 ⟨u1, rfl, h5, sb⟩
        have s5 := h5.isSl
        have U1 := h5.ints
        clear h5
        clear LA
        replace k1 := k1.below sb
        replace k2 := k2.below sb
        replace i1 := i1.below sb
        replace i2 := i2.below sb
        replace LB := LB.below sb
        replace BXL := BXL.below sb
        replace BEL := Below.chain BEL sb
        clear sb
        refine hK.out _ _ (⟨k1.cell0, k1.cell1, k2.cell0, k2.cell1⟩) (fun hHeld => ?_)
        clear hK K
        try simp only [Act.put, List.setIfInBounds_toArray, List.set_cons_zero, List.set_cons_succ]
        refine wpAnyH_ready (rs := [7]) (by kernel_rfl) (by simp) ?_
        refine' AllReadyH.cons (o := ?oiz138) ?haz138 (fun K hK => ?stepz138) AllReadyH.nil
        case haz138 => (simp only [List.getElem?_toArray, List.getElem?_cons_succ, List.getElem?_cons_zero]; exact rfl)
        go_simp
        go_at_call 41
        refine (mulK_calls litm p2 _ _ y56 LB i2 litm_ok Q2.out O2.out).mono ?_
        rintro e y57 ⟨u2, rfl, h6, sb⟩
        have s6 := h6.isSl
        have U2 := h6.ints
        clear h6
        clear LB
        replace k1 := k1.below sb
        replace k2 := k2.below sb
        replace i1 := i1.below sb
        replace i2 := i2.below sb
        replace BXL := BXL.below sb
        replace U1 := U1.below sb
        replace BEL := Below.chain BEL sb
        clear sb
        refine hK.out _ _ (⟨k1.cell0, k1.cell1, k2.cell0, k2.cell1⟩) (fun hHeld => ?_)
        clear hK K
        try simp only [Act.put, List.setIfInBounds_toArray, List.set_cons_zero, List.set_cons_succ]
        refine wpAnyH_ready (rs := [8]) (by kernel_rfl) (by simp) ?_
        refine' AllReadyH.cons (o := ?oiz137) ?haz137 (fun K hK => ?stepz137) AllReadyH.nil
        case haz137 => (simp only [List.getElem?_toArray, List.getElem?_cons_succ, List.getElem?_cons_zero]; exact rfl)
        go_simp
        go_at_call 40
        refine (sub_calls (pmul lit4 p1) (pmul litm p2) u1 u2 y57 U1 U2 O1.out O2.out (by rw [HLH.out]; exact O3.out)).mono ?_
        rintro e y58 ⟨v9, rfl, h9, sb⟩
        rw [HLH.out] at h9 ⊢
        have T9 := h9.low (B' := W0.heap.size) BEL.size
        have s9 := T9.isSl
        obtain ⟨x1, x2, x3, rfl, -⟩ := s9.cases
        clear h9
        clear U1 U2
        replace k1 := k1.below sb
        replace k2 := k2.below sb
        replace i1 := i1.below sb
        replace i2 := i2.below sb
        replace BXL := BXL.below sb
        replace BEL := Below.chain BEL sb
        clear sb
        refine hK.out _ _ (⟨k1.cell0, k1.cell1, k2.cell0, k2.cell1⟩) (fun hHeld => ?_)
        clear hK K
        try simp only [Act.put, List.setIfInBounds_toArray, List.set_cons_zero, List.set_cons_succ]
        refine' wpAnyH_take (i := 9) (oi := ?oiz132) (v := ?vz132) ?haz132 (by kernel_rfl) ?hfz132 ?hrz132 ?hQz132 (Or.inl ⟨?hwz132, ?hyz132⟩) (by assumption) ?restz132
        case haz132 => (simp only [List.getElem?_toArray, List.getElem?_cons_succ, List.getElem?_cons_zero]; exact rfl)
        case hQz132 => exact fun _ _ _ h => h
        case hfz132 => kernel_rfl
        case hrz132 => kernel_rfl
        case hwz132 => rfl
        case hyz132 => (intro w hSw; (try dsimp only at hSw); obtain ⟨e1, e2, e3, e4⟩ := hSw; go_simp; (try with_reducible rfl))
        try simp only [Act.put, List.setIfInBounds_toArray, List.set_cons_zero, List.set_cons_succ]
        refine' wpAnyH_take (i := 10) (oi := ?oiz133) (v := ?vz133) ?haz133 (by kernel_rfl) ?hfz133 ?hrz133 ?hQz133 (Or.inl ⟨?hwz133, ?hyz133⟩) (by assumption) ?restz133
        case haz133 => (simp only [List.getElem?_toArray, List.getElem?_cons_succ, List.getElem?_cons_zero]; exact rfl)
        case hQz133 => exact fun _ _ _ h => h
        case hfz133 => kernel_rfl
        case hrz133 => kernel_rfl
        case hwz133 => rfl
        case hyz133 => (intro w hSw; (try dsimp only at hSw); obtain ⟨e1, e2, e3, e4⟩ := hSw; go_simp; (try with_reducible rfl))
        try simp only [Act.put, List.setIfInBounds_toArray, List.set_cons_zero, List.set_cons_succ]
        refine' wpAnyH_take (i := 11) (oi := ?oiz134) (v := ?vz134) ?haz134 (by kernel_rfl) ?hfz134 ?hrz134 ?hQz134 (Or.inl ⟨?hwz134, ?hyz134⟩) (by assumption) ?restz134
        case haz134 => (simp only [List.getElem?_toArray, List.getElem?_cons_succ, List.getElem?_cons_zero]; exact rfl)
        case hQz134 => exact fun _ _ _ h => h
        case hfz134 => kernel_rfl
        case hrz134 => kernel_rfl
        case hwz134 => rfl
        case hyz134 => (intro w hSw; (try dsimp only at hSw); obtain ⟨e1, e2, e3, e4⟩ := hSw; go_simp; (try with_reducible rfl))
        try simp only [Act.put, List.setIfInBounds_toArray, List.set_cons_zero, List.set_cons_succ]
        refine wpAnyH_ready (rs := [13]) (by kernel_rfl) (by simp) ?_
        refine' AllReadyH.cons (o := ?oiz136) ?haz136 (fun K hK => ?stepz136) AllReadyH.nil
        case haz136 => (simp only [List.getElem?_toArray, List.getElem?_cons_succ, List.getElem?_cons_zero]; exact rfl)
        have f0 := BXL.free0; have f1 := BXL.free1; have b0 := BXL.cell0; have b1 := BXL.cell1
        go_simp

        clear f0 f1 b0 b1
        have k19 := (k1.other (C := bk) (by omega) 0 (.int .i64 lhs.low)).other (C := bk) (by omega) 1 (.slice x1 x2 x3)
        have k29 := (k2.other (C := bk) (by omega) 0 (.int .i64 lhs.low)).other (C := bk) (by omega) 1 (.slice x1 x2 x3)
        refine hK.out _ _ (⟨k19.cell0, k19.cell1, k29.cell0, k29.cell1⟩) (fun hHeld => ?_)
        clear hK K
        try simp only [Act.put, List.setIfInBounds_toArray, List.set_cons_zero, List.set_cons_succ]
        refine' wpAnyH_take (i := 14) (oi := ?oiz135) (v := ?vz135) ?haz135 (by kernel_rfl) ?hfz135 ?hrz135 ?hQz135 (Or.inl ⟨?hwz135, ?hyz135⟩) (by assumption) ?restz135
        case haz135 => (simp only [List.getElem?_toArray, List.getElem?_cons_succ, List.getElem?_cons_zero]; exact rfl)
        case hQz135 => exact fun _ _ _ h => h
        case hfz135 => kernel_rfl
        case hrz135 => kernel_rfl
        case hwz135 => rfl
        case hyz135 => (intro w hSw; (try dsimp only at hSw); obtain ⟨e1, e2, e3, e4⟩ := hSw; go_simp; (try with_reducible rfl))
        try simp only [Act.put, List.setIfInBounds_toArray, List.set_cons_zero, List.set_cons_succ]
        refine wpAnyH_done (by kernel_rfl) ?_ _
        have hne7 : ∀ b, Go.Sl.row (.slice x1 x2 x3) = some b → bk ≠ b := Own.ne_of_type (by decide) T9 BXL
        go_wp2_with fail
        go_meet
        case rel => exact ⟨bk, _, rfl, rfl, BXL.set _ _, ((T9.setOther (fun b hb => hne7 b hb) _).setOther (fun b hb => hne7 b hb) _).ints, (BEL.setCell (p := ⟨bk, 0, none⟩) hbk _).setCell (p := ⟨bk, 1, none⟩) hbk _⟩
    case stepz179 =>
      go_simp
      obtain ⟨y59, hy59⟩ : ∃ y59, y59 = World.alloc y0 (.cells #[.int .i64 0, .slice none 0 0] 35) := ⟨_, rfl⟩
      rw [← hy59]
      have sb : Below (World.heap y0).size y0 y59 := by rw [hy59]; exact (Below.refl _ _).alloc (Nat.le_refl _) _
      have BXL : Pair y59 y0.heap.size 35 (.int .i64 0) (.slice none 0 0) := by rw [hy59]; exact pair_new _ _ _ _
      have hbk : W0.heap.size ≤ y0.heap.size := BEL.size
      obtain ⟨bk, hbk0⟩ : ∃ bk, bk = y0.heap.size := ⟨_, rfl⟩
      rw [← hbk0] at BXL hbk ⊢
      clear hbk0
      clear hy59
      replace k1 := k1.below sb
      replace k2 := k2.below sb
      replace i1 := i1.below sb
      replace i2 := i2.below sb
      replace BEL := Below.chain BEL sb
      clear sb
      refine hK.out _ _ (⟨k1.cell0, k1.cell1, k2.cell0, k2.cell1⟩) (fun hHeld => ?_)
      clear hK K
      try simp only [Act.put, List.setIfInBounds_toArray, List.set_cons_zero, List.set_cons_succ]
      refine wpAnyH_ready (rs := [0, 4]) (by kernel_rfl) (by simp) ?_
      refine' AllReadyH.cons (o := ?oiz175) ?haz175 (fun K hK => ?stepz175) (AllReadyH.cons (o := ?oiz176) ?haz176 (fun K hK => ?stepz176) AllReadyH.nil)
      case haz175 => (simp only [List.getElem?_toArray, List.getElem?_cons_succ, List.getElem?_cons_zero]; exact rfl)
      case haz176 => (simp only [List.getElem?_toArray, List.getElem?_cons_succ, List.getElem?_cons_zero]; exact rfl)
      case stepz175 =>
        go_simp
        obtain ⟨y60, hy60⟩ : ∃ y60, y60 = World.alloc y59 (.cells #[.int .i64 1] 3) := ⟨_, rfl⟩
        rw [← hy60]
        have sb : Below (World.heap y59).size y59 y60 := by rw [hy60]; exact (Below.refl _ _).alloc (Nat.le_refl _) _
        have LA : Ints y60 (.slice (some ⟨y59.heap.size, 0, none⟩) 1 1) [1] := by rw [hy60]; exact ints_lit [1] rfl rfl rfl (by simp)
        clear hy60
        replace k1 := k1.below sb
        replace k2 := k2.below sb
        replace i1 := i1.below sb
        replace i2 := i2.below sb
        replace BXL := BXL.below sb
        replace BEL := Below.chain BEL sb
        clear sb
        refine hK.out _ _ (⟨k1.cell0, k1.cell1, k2.cell0, k2.cell1⟩) (fun hHeld => ?_)
        clear hK K
        try simp only [Act.put, List.setIfInBounds_toArray, List.set_cons_zero, List.set_cons_succ]
        refine' wpAnyH_take (i := 1) (oi := ?oiz143) (v := ?vz143) ?haz143 (by kernel_rfl) ?hfz143 ?hrz143 ?hQz143 (Or.inl ⟨?hwz143, ?hyz143⟩) (by assumption) ?restz143
        case haz143 => (simp only [List.getElem?_toArray, List.getElem?_cons_succ, List.getElem?_cons_zero]; exact rfl)
        case hQz143 => exact fun _ _ _ h => h
        case hfz143 => kernel_rfl
        case hrz143 => kernel_rfl
        case hwz143 => rfl
        case hyz143 => (intro w hSw; (try dsimp only at hSw); obtain ⟨e1, e2, e3, e4⟩ := hSw; go_simp; (try with_reducible rfl))
        try simp only [Act.put, List.setIfInBounds_toArray, List.set_cons_zero, List.set_cons_succ]
        refine wpAnyH_ready (rs := [3, 4]) (by kernel_rfl) (by simp) ?_
        refine' AllReadyH.cons (o := ?oiz162) ?haz162 (fun K hK => ?stepz162) (AllReadyH.cons (o := ?oiz163) ?haz163 (fun K hK => ?stepz163) AllReadyH.nil)
        case haz162 => (simp only [List.getElem?_toArray, List.getElem?_cons_succ, List.getElem?_cons_zero]; exact rfl)
        case haz163 => (simp only [List.getElem?_toArray, List.getElem?_cons_succ, List.getElem?_cons_zero]; exact rfl)
        case stepz162 =>
          go_simp
          go_at_call 41
          refine (mulK_calls lit4 p1 _ _ y60 LA i1 lit4_ok Q1.out O1.out).mono ?_
          rintro e y61 ⟨u1, rfl, h5, sb⟩
          have s5 := h5.isSl
          have U1 := h5.ints
          clear h5
          clear LA
          replace k1 := k1.below sb
          replace k2 := k2.below sb
          replace i1 := i1.below sb
          replace i2 := i2.below sb
          replace BXL := BXL.below sb
          replace BEL := Below.chain BEL sb
          clear sb
          refine hK.out _ _ (⟨k1.cell0, k1.cell1, k2.cell0, k2.cell1⟩) (fun hHeld => ?_)
          clear hK K
          try simp only [Act.put, List.setIfInBounds_toArray, List.set_cons_zero, List.set_cons_succ]
          refine wpAnyH_ready (rs := [4]) (by kernel_rfl) (by simp) ?_
          refine' AllReadyH.cons (o := ?oiz152) ?haz152 (fun K hK => ?stepz152) AllReadyH.nil
          case haz152 => (simp only [List.getElem?_toArray, List.getElem?_cons_succ, List.getElem?_cons_zero]; exact rfl)
          go_simp
          obtain ⟨y62, hy62⟩ : ∃ y62, y62 = World.alloc y61 (.cells #[.int .i64 1] 3) := ⟨_, rfl⟩
          rw [← hy62]
          have sb : Below (World.heap y61).size y61 y62 := by rw [hy62]; exact (Below.refl _ _).alloc (Nat.le_refl _) _
          have LB : Ints y62 (.slice (some ⟨y61.heap.size, 0, none⟩) 1 1) [1] := by rw [hy62]; exact ints_lit [1] rfl rfl rfl (by simp)
          clear hy62
          replace k1 := k1.below sb
          replace k2 := k2.below sb
          replace i1 := i1.below sb
          replace i2 := i2.below sb
          replace BXL := BXL.below sb
          replace U1 := U1.below sb
          replace BEL := Below.chain BEL sb
          clear sb
          refine hK.out _ _ (⟨k1.cell0, k1.cell1, k2.cell0, k2.cell1⟩) (fun hHeld => ?_)
          clear hK K
          try simp only [Act.put, List.setIfInBounds_toArray, List.set_cons_zero, List.set_cons_succ]
          refine' wpAnyH_take (i := 5) (oi := ?oiz144) (v := ?vz144) ?haz144 (by kernel_rfl) ?hfz144 ?hrz144 ?hQz144 (Or.inl ⟨?hwz144, ?hyz144⟩) (by assumption) ?restz144
          case haz144 => (simp only [List.getElem?_toArray, List.getElem?_cons_succ, List.getElem?_cons_zero]; exact rfl)
          case hQz144 => exact fun _ _ _ h => h
          case hfz144 => kernel_rfl
          case hrz144 => kernel_rfl
          case hwz144 => rfl
          case hyz144 => (intro w hSw; (try dsimp only at hSw); obtain ⟨e1, e2, e3, e4⟩ := hSw; go_simp; (try with_reducible rfl))
          try simp only [Act.put, List.setIfInBounds_toArray, List.set_cons_zero, List.set_cons_succ]
          refine wpAnyH_ready (rs := [7]) (by kernel_rfl) (by simp) ?_
          refine' AllReadyH.cons (o := ?oiz151) ?haz151 (fun K hK => ?stepz151) AllReadyH.nil
          case haz151 => (simp only [List.getElem?_toArray, List.getElem?_cons_succ, List.getElem?_cons_zero]; exact rfl)
          go_simp
          go_at_call 41
          refine (mulK_calls litm p2 _ _ y62 LB i2 litm_ok Q2.out O2.out).mono ?_
          rintro e y63 ⟨u2, rfl, h6, sb⟩
          have s6 := h6.isSl
          have U2 := h6.ints
          clear h6
          clear LB
          replace k1 := k1.below sb
          replace k2 := k2.below sb
          replace i1 := i1.below sb
          replace i2 := i2.below sb
          replace BXL := BXL.below sb
          replace U1 := U1.below sb
          replace BEL := Below.chain BEL sb
          clear sb
          refine hK.out _ _ (⟨k1.cell0, k1.cell1, k2.cell0, k2.cell1⟩) (fun hHeld => ?_)
          clear hK K
          try simp only [Act.put, List.setIfInBounds_toArray, List.set_cons_zero, List.set_cons_succ]
          refine wpAnyH_ready (rs := [8]) (by kernel_rfl) (by simp) ?_
          refine' AllReadyH.cons (o := ?oiz150) ?haz150 (fun K hK => ?stepz150) AllReadyH.nil
          case haz150 => (simp only [List.getElem?_toArray, List.getElem?_cons_succ, List.getElem?_cons_zero]; exact rfl)
          go_simp
          go_at_call 40
          refine (sub_calls (pmul lit4 p1) (pmul litm p2) u1 u2 y63 U1 U2 O1.out O2.out (by rw [HLH.out]; exact O3.out)).mono ?_
          rintro e y64 ⟨v9, rfl, h9, sb⟩
          rw [HLH.out] at h9 ⊢
          have T9 := h9.low (B' := W0.heap.size) BEL.size
          have s9 := T9.isSl
          obtain ⟨x1, x2, x3, rfl, -⟩ := s9.cases
          clear h9
          clear U1 U2
          replace k1 := k1.below sb
          replace k2 := k2.below sb
          replace i1 := i1.below sb
          replace i2 := i2.below sb
          replace BXL := BXL.below sb
          replace BEL := Below.chain BEL sb
          clear sb
          refine hK.out _ _ (⟨k1.cell0, k1.cell1, k2.cell0, k2.cell1⟩) (fun hHeld => ?_)
          clear hK K
          try simp only [Act.put, List.setIfInBounds_toArray, List.set_cons_zero, List.set_cons_succ]
          refine' wpAnyH_take (i := 9) (oi := ?oiz145) (v := ?vz145) ?haz145 (by kernel_rfl) ?hfz145 ?hrz145 ?hQz145 (Or.inl ⟨?hwz145, ?hyz145⟩) (by assumption) ?restz145
          case haz145 => (simp only [List.getElem?_toArray, List.getElem?_cons_succ, List.getElem?_cons_zero]; exact rfl)
          case hQz145 => exact fun _ _ _ h => h
          case hfz145 => kernel_rfl
          case hrz145 => kernel_rfl
          case hwz145 => rfl
          case hyz145 => (intro w hSw; (try dsimp only at hSw); obtain ⟨e1, e2, e3, e4⟩ := hSw; go_simp; (try with_reducible rfl))
          try simp only [Act.put, List.setIfInBounds_toArray, List.set_cons_zero, List.set_cons_succ]
          refine' wpAnyH_take (i := 10) (oi := ?oiz146) (v := ?vz146) ?haz146 (by kernel_rfl) ?hfz146 ?hrz146 ?hQz146 (Or.inl ⟨?hwz146, ?hyz146⟩) (by assumption) ?restz146
          case haz146 => (simp only [List.getElem?_toArray, List.getElem?_cons_succ, List.getElem?_cons_zero]; exact rfl)
          case hQz146 => exact fun _ _ _ h => h
          case hfz146 => kernel_rfl
          case hrz146 => kernel_rfl
          case hwz146 => rfl
          case hyz146 => (intro w hSw; (try dsimp only at hSw); obtain ⟨e1, e2, e3, e4⟩ := hSw; go_simp; (try with_reducible rfl))
          try simp only [Act.put, List.setIfInBounds_toArray, List.set_cons_zero, List.set_cons_succ]
          refine' wpAnyH_take (i := 11) (oi := ?oiz147) (v := ?vz147) ?haz147 (by kernel_rfl) ?hfz147 ?hrz147 ?hQz147 (Or.inl ⟨?hwz147, ?hyz147⟩) (by assumption) ?restz147
          case haz147 => (simp only [List.getElem?_toArray, List.getElem?_cons_succ, List.getElem?_cons_zero]; exact rfl)
          case hQz147 => exact fun _ _ _ h => h
          case hfz147 => kernel_rfl
          case hrz147 => kernel_rfl
          case hwz147 => rfl
          case hyz147 => (intro w hSw; (try dsimp only at hSw); obtain ⟨e1, e2, e3, e4⟩ := hSw; go_simp; (try with_reducible rfl))
          try simp only [Act.put, List.setIfInBounds_toArray, List.set_cons_zero, List.set_cons_succ]
          refine wpAnyH_ready (rs := [13]) (by kernel_rfl) (by simp) ?_
          refine' AllReadyH.cons (o := ?oiz149) ?haz149 (fun K hK => ?stepz149) AllReadyH.nil
          case haz149 => (simp only [List.getElem?_toArray, List.getElem?_cons_succ, List.getElem?_cons_zero]; exact rfl)
          have f0 := BXL.free0; have f1 := BXL.free1; have b0 := BXL.cell0; have b1 := BXL.cell1
          go_simp

          clear f0 f1 b0 b1
          have k19 := (k1.other (C := bk) (by omega) 0 (.int .i64 lhs.low)).other (C := bk) (by omega) 1 (.slice x1 x2 x3)
          have k29 := (k2.other (C := bk) (by omega) 0 (.int .i64 lhs.low)).other (C := bk) (by omega) 1 (.slice x1 x2 x3)
          refine hK.out _ _ (⟨k19.cell0, k19.cell1, k29.cell0, k29.cell1⟩) (fun hHeld => ?_)
          clear hK K
          try simp only [Act.put, List.setIfInBounds_toArray, List.set_cons_zero, List.set_cons_succ]
          refine' wpAnyH_take (i := 14) (oi := ?oiz148) (v := ?vz148) ?haz148 (by kernel_rfl) ?hfz148 ?hrz148 ?hQz148 (Or.inl ⟨?hwz148, ?hyz148⟩) (by assumption) ?restz148
          case haz148 => (simp only [List.getElem?_toArray, List.getElem?_cons_succ, List.getElem?_cons_zero]; exact rfl)
          case hQz148 => exact fun _ _ _ h => h
          case hfz148 => kernel_rfl
          case hrz148 => kernel_rfl
          case hwz148 => rfl
          case hyz148 => (intro w hSw; (try dsimp only at hSw); obtain ⟨e1, e2, e3, e4⟩ := hSw; go_simp; (try with_reducible rfl))
          try simp only [Act.put, List.setIfInBounds_toArray, List.set_cons_zero, List.set_cons_succ]
          refine wpAnyH_done (by kernel_rfl) ?_ _
          have hne7 : ∀ b, Go.Sl.row (.slice x1 x2 x3) = some b → bk ≠ b := Own.ne_of_type (by decide) T9 BXL
          go_wp2_with fail
          go_meet
          case rel => exact ⟨bk, _, rfl, rfl, BXL.set _ _, ((T9.setOther (fun b hb => hne7 b hb) _).setOther (fun b hb => hne7 b hb) _).ints, (BEL.setCell (p := ⟨bk, 0, none⟩) hbk _).setCell (p := ⟨bk, 1, none⟩) hbk _⟩
        case stepz163 =>
          go_simp
          obtain ⟨y65, hy65⟩ : ∃ y65, y65 = World.alloc y60 (.cells #[.int .i64 1] 3) := ⟨_, rfl⟩
          rw [← hy65]
          have sb : Below (World.heap y60).size y60 y65 := by rw [hy65]; exact (Below.refl _ _).alloc (Nat.le_refl _) _
          have LB : Ints y65 (.slice (some ⟨y60.heap.size, 0, none⟩) 1 1) [1] := by rw [hy65]; exact ints_lit [1] rfl rfl rfl (by simp)
          clear hy65
          replace k1 := k1.below sb
          replace k2 := k2.below sb
          replace i1 := i1.below sb
          replace i2 := i2.below sb
          replace BXL := BXL.below sb
          replace LA := LA.below sb
          replace BEL := Below.chain BEL sb
          clear sb
          refine hK.out _ _ (⟨k1.cell0, k1.cell1, k2.cell0, k2.cell1⟩) (fun hHeld => ?_)
          clear hK K
          try simp only [Act.put, List.setIfInBounds_toArray, List.set_cons_zero, List.set_cons_succ]
          refine' wpAnyH_take (i := 5) (oi := ?oiz153) (v := ?vz153) ?haz153 (by kernel_rfl) ?hfz153 ?hrz153 ?hQz153 (Or.inl ⟨?hwz153, ?hyz153⟩) (by assumption) ?restz153
          case haz153 => (simp only [List.getElem?_toArray, List.getElem?_cons_succ, List.getElem?_cons_zero]; exact rfl)
          case hQz153 => exact fun _ _ _ h => h
          case hfz153 => kernel_rfl
          case hrz153 => kernel_rfl
          case hwz153 => rfl
          case hyz153 => (intro w hSw; (try dsimp only at hSw); obtain ⟨e1, e2, e3, e4⟩ := hSw; go_simp; (try with_reducible rfl))
          try simp only [Act.put, List.setIfInBounds_toArray, List.set_cons_zero, List.set_cons_succ]
          refine wpAnyH_ready (rs := [3]) (by kernel_rfl) (by simp) ?_
          refine' AllReadyH.cons (o := ?oiz161) ?haz161 (fun K hK => ?stepz161) AllReadyH.nil
          case haz161 => (simp only [List.getElem?_toArray, List.getElem?_cons_succ, List.getElem?_cons_zero]; exact rfl)
          go_simp
          go_at_call 41
          refine (mulK_calls lit4 p1 _ _ y65 LA i1 lit4_ok Q1.out O1.out).mono ?_
          rintro e y66 ⟨u1, rfl, h5, sb⟩
          have s5 := h5.isSl
          have U1 := h5.ints
          clear h5
          clear LA
          replace k1 := k1.below sb
          replace k2 := k2.below sb
          replace i1 := i1.below sb
          replace i2 := i2.below sb
          replace BXL := BXL.below sb
          replace LB := LB.below sb
          replace BEL := Below.chain BEL sb
          clear sb
          refine hK.out _ _ (⟨k1.cell0, k1.cell1, k2.cell0, k2.cell1⟩) (fun hHeld => ?_)
          clear hK K
          try simp only [Act.put, List.setIfInBounds_toArray, List.set_cons_zero, List.set_cons_succ]
          refine wpAnyH_ready (rs := [7]) (by kernel_rfl) (by simp) ?_
          refine' AllReadyH.cons (o := ?oiz160) ?haz160 (fun K hK => ?stepz160) AllReadyH.nil
          case haz160 => (simp only [List.getElem?_toArray, List.getElem?_cons_succ, List.getElem?_cons_zero]; exact rfl)
          go_simp
          go_at_call 41
          refine (mulK_calls litm p2 _ _ y66 LB i2 litm_ok Q2.out O2.out).mono ?_
          rintro e y67 ⟨u2, rfl, h6, sb⟩
          have s6 := h6.isSl
          have U2 := h6.ints
          clear h6
          clear LB
          replace k1 := k1.below sb
          replace k2 := k2.below sb
          replace i1 := i1.below sb
          replace i2 := i2.below sb
          replace BXL := BXL.below sb
          replace U1 := U1.below sb
          replace BEL := Below.chain BEL sb
          clear sb
          refine hK.out _ _ (⟨k1.cell0, k1.cell1, k2.cell0, k2.cell1⟩) (fun hHeld => ?_)
          clear hK K
          try simp only [Act.put, List.setIfInBounds_toArray, List.set_cons_zero, List.set_cons_succ]
          refine wpAnyH_ready (rs := [8]) (by kernel_rfl) (by simp) ?_
          refine' AllReadyH.cons (o := ?oiz159) ?haz159 (fun K hK => ?stepz159) AllReadyH.nil
          case haz159 => (simp only [List.getElem?_toArray, List.getElem?_cons_succ, List.getElem?_cons_zero]; exact rfl)
          go_simp
          go_at_call 40
          refine (sub_calls (pmul lit4 p1) (pmul litm p2) u1 u2 y67 U1 U2 O1.out O2.out (by rw [HLH.out]; exact O3.out)).mono ?_
          rintro e y68 ⟨v9, rfl, h9, sb⟩
          rw [HLH.out] at h9 ⊢
          have T9 := h9.low (B' := W0.heap.size) BEL.size
          have s9 := T9.isSl
          obtain ⟨x1, x2, x3, rfl, -⟩ := s9.cases
          clear h9
          clear U1 U2
          replace k1 := k1.below sb
          replace k2 := k2.below sb
          replace i1 := i1.below sb
          replace i2 := i2.below sb
          replace BXL := BXL.below sb
          replace BEL := Below.chain BEL sb
          clear sb
          refine hK.out _ _ (⟨k1.cell0, k1.cell1, k2.cell0, k2.cell1⟩) (fun hHeld => ?_)
          clear hK K
          try simp only [Act.put, List.setIfInBounds_toArray, List.set_cons_zero, List.set_cons_succ]
          refine' wpAnyH_take (i := 9) (oi := ?oiz154) (v := ?vz154) ?haz154 (by kernel_rfl) ?hfz154 ?hrz154 ?hQz154 (Or.inl ⟨?hwz154, ?hyz154⟩) (by assumption) ?restz154
          case haz154 => (simp only [List.getElem?_toArray, List.getElem?_cons_succ, List.getElem?_cons_zero]; exact rfl)
          case hQz154 => exact fun _ _ _ h => h
          case hfz154 => kernel_rfl
          case hrz154 => kernel_rfl
          case hwz154 => rfl
          case hyz154 => (intro w hSw; (try dsimp only at hSw); obtain ⟨e1, e2, e3, e4⟩ := hSw; go_simp; (try with_reducible rfl))
          try simp only [Act.put, List.setIfInBounds_toArray, List.set_cons_zero, List.set_cons_succ]
          refine' wpAnyH_take (i := 10) (oi := ?oiz155) (v := ?vz155) ?haz155 (by kernel_rfl) ?hfz155 ?hrz155 ?hQz155 (Or.inl ⟨?hwz155, ?hyz155⟩) (by assumption) ?restz155
          case haz155 => (simp only [List.getElem?_toArray, List.getElem?_cons_succ, List.getElem?_cons_zero]; exact rfl)
          case hQz155 => exact fun _ _ _ h => h
          case hfz155 => kernel_rfl
          case hrz155 => kernel_rfl
          case hwz155 => rfl
          case hyz155 => (intro w hSw; (try dsimp only at hSw); obtain ⟨e1, e2, e3, e4⟩ := hSw; go_simp; (try with_reducible rfl))
          try simp only [Act.put, List.setIfInBounds_toArray, List.set_cons_zero, List.set_cons_succ]
          refine' wpAnyH_take (i := 11) (oi := ?oiz156) (v := ?vz156) ?haz156 (by kernel_rfl) ?hfz156 ?hrz156 ?hQz156 (Or.inl ⟨?hwz156, ?hyz156⟩) (by assumption) ?restz156
          case haz156 => (simp only [List.getElem?_toArray, List.getElem?_cons_succ, List.getElem?_cons_zero]; exact rfl)
          case hQz156 => exact fun _ _ _ h => h
          case hfz156 => kernel_rfl
          case hrz156 => kernel_rfl
          case hwz156 => rfl
          case hyz156 => (intro w hSw; (try dsimp only at hSw); obtain ⟨e1, e2, e3, e4⟩ := hSw; go_simp; (try with_reducible rfl))
          try simp only [Act.put, List.setIfInBounds_toArray, List.set_cons_zero, List.set_cons_succ]
          refine wpAnyH_ready (rs := [13]) (by kernel_rfl) (by simp) ?_
          refine' AllReadyH.cons (o := ?oiz158) ?haz158 (fun K hK => ?stepz158) AllReadyH.nil
          case haz158 => (simp only [List.getElem?_toArray, List.getElem?_cons_succ, List.getElem?_cons_zero]; exact rfl)
          have f0 := BXL.free0; have f1 := BXL.free1; have b0 := BXL.cell0; have b1 := BXL.cell1
          go_simp

          clear f0 f1 b0 b1
          have k19 := (k1.other (C := bk) (by omega) 0 (.int .i64 lhs.low)).other (C := bk) (by omega) 1 (.slice x1 x2 x3)
          have k29 := (k2.other (C := bk) (by omega) 0 (.int .i64 lhs.low)).other (C := bk) (by omega) 1 (.slice x1 x2 x3)
          refine hK.out _ _ (⟨k19.cell0, k19.cell1, k29.cell0, k29.cell1⟩) (fun hHeld => ?_)
          clear hK K
          try simp only [Act.put, List.setIfInBounds_toArray, List.set_cons_zero, List.set_cons_succ]
          refine' wpAnyH_take (i := 14) (oi := ?oiz157) (v := ?vz157) ?haz157 (by kernel_rfl) ?hfz157 ?hrz157 ?hQz157 (Or.inl ⟨?hwz157, ?hyz157⟩) (by assumption) ?restz157
          case haz157 => (simp only [List.getElem?_toArray, List.getElem?_cons_succ, List.getElem?_cons_zero]; exact rfl)
          case hQz157 => exact fun _ _ _ h => h
          case hfz157 => kernel_rfl
          case hrz157 => kernel_rfl
          case hwz157 => rfl
          case hyz157 => (intro w hSw; (try dsimp only at hSw); obtain ⟨e1, e2, e3, e4⟩ := hSw; go_simp; (try with_reducible rfl))
          try simp only [Act.put, List.setIfInBounds_toArray, List.set_cons_zero, List.set_cons_succ]
          refine wpAnyH_done (by kernel_rfl) ?_ _
          have hne7 : ∀ b, Go.Sl.row (.slice x1 x2 x3) = some b → bk ≠ b := Own.ne_of_type (by decide) T9 BXL
          go_wp2_with fail
          go_meet
          case rel => exact ⟨bk, _, rfl, rfl, BXL.set _ _, ((T9.setOther (fun b hb => hne7 b hb) _).setOther (fun b hb => hne7 b hb) _).ints, (BEL.setCell (p := ⟨bk, 0, none⟩) hbk _).setCell (p := ⟨bk, 1, none⟩) hbk _⟩
      case stepz176 =>
        go_simp
        obtain ⟨y69, hy69⟩ : ∃ y69, y69 = World.alloc y59 (.cells #[.int .i64 1] 3) := ⟨_, rfl⟩
        rw [← hy69]
        have sb : Below (World.heap y59).size y59 y69 := by rw [hy69]; exact (Below.refl _ _).alloc (Nat.le_refl _) _
        have LB : Ints y69 (.slice (some ⟨y59.heap.size, 0, none⟩) 1 1) [1] := by rw [hy69]; exact ints_lit [1] rfl rfl rfl (by simp)
        clear hy69
        replace k1 := k1.below sb
        replace k2 := k2.below sb
        replace i1 := i1.below sb
        replace i2 := i2.below sb
        replace BXL := BXL.below sb
        replace BEL := Below.chain BEL sb
        clear sb
        refine hK.out _ _ (⟨k1.cell0, k1.cell1, k2.cell0, k2.cell1⟩) (fun hHeld => ?_)
        clear hK K
        try simp only [Act.put, List.setIfInBounds_toArray, List.set_cons_zero, List.set_cons_succ]
        refine' wpAnyH_take (i := 5) (oi := ?oiz164) (v := ?vz164) ?haz164 (by kernel_rfl) ?hfz164 ?hrz164 ?hQz164 (Or.inl ⟨?hwz164, ?hyz164⟩) (by assumption) ?restz164
        case haz164 => (simp only [List.getElem?_toArray, List.getElem?_cons_succ, List.getElem?_cons_zero]; exact rfl)
        case hQz164 => exact fun _ _ _ h => h
        case hfz164 => kernel_rfl
        case hrz164 => kernel_rfl
        case hwz164 => rfl
        case hyz164 => (intro w hSw; (try dsimp only at hSw); obtain ⟨e1, e2, e3, e4⟩ := hSw; go_simp; (try with_reducible rfl))
        try simp only [Act.put, List.setIfInBounds_toArray, List.set_cons_zero, List.set_cons_succ]
        refine wpAnyH_ready (rs := [0]) (by kernel_rfl) (by simp) ?_
        refine' AllReadyH.cons (o := ?oiz174) ?haz174 (fun K hK => ?stepz174) AllReadyH.nil
        case haz174 => (simp only [List.getElem?_toArray, List.getElem?_cons_succ, List.getElem?_cons_zero]; exact rfl)
        go_simp
        obtain ⟨y70, hy70⟩ : ∃ y70, y70 = World.alloc y69 (.cells #[.int .i64 1] 3) := ⟨_, rfl⟩
        rw [← hy70]
        have sb : Below (World.heap y69).size y69 y70 := by rw [hy70]; exact (Below.refl _ _).alloc (Nat.le_refl _) _
        have LA : Ints y70 (.slice (some ⟨y69.heap.size, 0, none⟩) 1 1) [1] := by rw [hy70]; exact ints_lit [1] rfl rfl rfl (by simp)
        clear hy70
        replace k1 := k1.below sb
        replace k2 := k2.below sb
        replace i1 := i1.below sb
        replace i2 := i2.below sb
        replace BXL := BXL.below sb
        replace LB := LB.below sb
        replace BEL := Below.chain BEL sb
        clear sb
        refine hK.out _ _ (⟨k1.cell0, k1.cell1, k2.cell0, k2.cell1⟩) (fun hHeld => ?_)
        clear hK K
        try simp only [Act.put, List.setIfInBounds_toArray, List.set_cons_zero, List.set_cons_succ]
        refine' wpAnyH_take (i := 1) (oi := ?oiz165) (v := ?vz165) ?haz165 (by kernel_rfl) ?hfz165 ?hrz165 ?hQz165 (Or.inl ⟨?hwz165, ?hyz165⟩) (by assumption) ?restz165
        case haz165 => (simp only [List.getElem?_toArray, List.getElem?_cons_succ, List.getElem?_cons_zero]; exact rfl)
        case hQz165 => exact fun _ _ _ h => h
        case hfz165 => kernel_rfl
        case hrz165 => kernel_rfl
        case hwz165 => rfl
        case hyz165 => (intro w hSw; (try dsimp only at hSw); obtain ⟨e1, e2, e3, e4⟩ := hSw; go_simp; (try with_reducible rfl))
        try simp only [Act.put, List.setIfInBounds_toArray, List.set_cons_zero, List.set_cons_succ]
        refine wpAnyH_ready (rs := [3]) (by kernel_rfl) (by simp) ?_
        refine' AllReadyH.cons (o := ?oiz173) ?haz173 (fun K hK => ?stepz173) AllReadyH.nil
        case haz173 => (simp only [List.getElem?_toArray, List.getElem?_cons_succ, List.getElem?_cons_zero]; exact rfl)
        go_simp
        go_at_call 41
        refine (mulK_calls lit4 p1 _ _ y70 LA i1 lit4_ok Q1.out O1.out).mono ?_
        rintro e y71 ⟨u1, rfl, h5, sb⟩
        have s5 := h5.isSl
        have U1 := h5.ints
        clear h5
        clear LA
        replace k1 := k1.below sb
        replace k2 := k2.below sb
        replace i1 := i1.below sb
        replace i2 := i2.below sb
        replace BXL := BXL.below sb
        replace LB := LB.below sb
        replace BEL := Below.chain BEL sb
        clear sb
        refine hK.out _ _ (⟨k1.cell0, k1.cell1, k2.cell0, k2.cell1⟩) (fun hHeld => ?_)
        clear hK K
        try simp only [Act.put, List.setIfInBounds_toArray, List.set_cons_zero, List.set_cons_succ]
        refine wpAnyH_ready (rs := [7]) (by kernel_rfl) (by simp) ?_
        refine' AllReadyH.cons (o := ?oiz172) ?haz172 (fun K hK => ?stepz172) AllReadyH.nil
        case haz172 => (simp only [List.getElem?_toArray, List.getElem?_cons_succ, List.getElem?_cons_zero]; exact rfl)
        go_simp
        go_at_call 41
        refine (mulK_calls litm p2 _ _ y71 LB i2 litm_ok Q2.out O2.out).mono ?_
        rintro e y72 ⟨u2, rfl, h6, sb⟩
        have s6 := h6.isSl
        have U2 := h6.ints
        clear h6
        clear LB
        replace k1 := k1.below sb
        replace k2 := k2.below sb
        replace i1 := i1.below sb
        replace i2 := i2.below sb
        replace BXL := BXL.below sb
        replace U1 := U1.below sb
        replace BEL := Below.chain BEL sb
        clear sb
        refine hK.out _ _ (⟨k1.cell0, k1.cell1, k2.cell0, k2.cell1⟩) (fun hHeld => ?_)
        clear hK K
        try simp only [Act.put, List.setIfInBounds_toArray, List.set_cons_zero, List.set_cons_succ]
        refine wpAnyH_ready (rs := [8]) (by kernel_rfl) (by simp) ?_
        refine' AllReadyH.cons (o := ?oiz171) ?haz171 (fun K hK => ?stepz171) AllReadyH.nil
        case haz171 => (simp only [List.getElem?_toArray, List.getElem?_cons_succ, List.getElem?_cons_zero]; exact rfl)
        go_simp
        go_at_call 40
        refine (sub_calls (pmul lit4 p1) (pmul litm p2) u1 u2 y72 U1 U2 O1.out O2.out (by rw [HLH.out]; exact O3.out)).mono ?_
        rintro e y73 ⟨v9, rfl, h9, sb⟩
        rw [HLH.out] at h9 ⊢
        have T9 := h9.low (B' := W0.heap.size) BEL.size
        have s9 := T9.isSl
        obtain ⟨x1, x2, x3, rfl, -⟩ := s9.cases
        clear h9
        clear U1 U2
        replace k1 := k1.below sb
        replace k2 := k2.below sb
        replace i1 := i1.below sb
        replace i2 := i2.below sb
        replace BXL := BXL.below sb
        replace BEL := Below.chain BEL sb
        clear sb
        refine hK.out _ _ (⟨k1.cell0, k1.cell1, k2.cell0, k2.cell1⟩) (fun hHeld => ?_)
        clear hK K
        try simp only [Act.put, List.setIfInBounds_toArray, List.set_cons_zero, List.set_cons_succ]
        refine' wpAnyH_take (i := 9) (oi := ?oiz166) (v := ?vz166) ?haz166 (by kernel_rfl) ?hfz166 ?hrz166 ?hQz166 (Or.inl ⟨?hwz166, ?hyz166⟩) (by assumption) ?restz166
        case haz166 => (simp only [List.getElem?_toArray, List.getElem?_cons_succ, List.getElem?_cons_zero]; exact rfl)
        case hQz166 => exact fun _ _ _ h => h
        case hfz166 => kernel_rfl
        case hrz166 => kernel_rfl
        case hwz166 => rfl
        case hyz166 => (intro w hSw; (try dsimp only at hSw); obtain ⟨e1, e2, e3, e4⟩ := hSw; go_simp; (try with_reducible rfl))
        try simp only [Act.put, List.setIfInBounds_toArray, List.set_cons_zero, List.set_cons_succ]
        refine' wpAnyH_take (i := 10) (oi := ?oiz167) (v := ?vz167) ?haz167 (by kernel_rfl) ?hfz167 ?hrz167 ?hQz167 (Or.inl ⟨?hwz167, ?hyz167⟩) (by assumption) ?restz167
        case haz167 => (simp only [List.getElem?_toArray, List.getElem?_cons_succ, List.getElem?_cons_zero]; exact rfl)
        case hQz167 => exact fun _ _ _ h => h
        case hfz167 => kernel_rfl
        case hrz167 => kernel_rfl
        case hwz167 => rfl
        case hyz167 => (intro w hSw; (try dsimp only at hSw); obtain ⟨e1, e2, e3, e4⟩ := hSw; go_simp; (try with_reducible rfl))
        try simp only [Act.put, List.setIfInBounds_toArray, List.set_cons_zero, List.set_cons_succ]
        refine' wpAnyH_take (i := 11) (oi := ?oiz168) (v := ?vz168) ?haz168 (by kernel_rfl) ?hfz168 ?hrz168 ?hQz168 (Or.inl ⟨?hwz168, ?hyz168⟩) (by assumption) ?restz168
        case haz168 => (simp only [List.getElem?_toArray, List.getElem?_cons_succ, List.getElem?_cons_zero]; exact rfl)
        case hQz168 => exact fun _ _ _ h => h
        case hfz168 => kernel_rfl
        case hrz168 => kernel_rfl
        case hwz168 => rfl
        case hyz168 => (intro w hSw; (try dsimp only at hSw); obtain ⟨e1, e2, e3, e4⟩ := hSw; go_simp; (try with_reducible rfl))
        try simp only [Act.put, List.setIfInBounds_toArray, List.set_cons_zero, List.set_cons_succ]
        refine wpAnyH_ready (rs := [13]) (by kernel_rfl) (by simp) ?_
        refine' AllReadyH.cons (o := ?oiz170) ?haz170 (fun K hK => ?stepz170) AllReadyH.nil
        case haz170 => (simp only [List.getElem?_toArray, List.getElem?_cons_succ, List.getElem?_cons_zero]; exact rfl)
        have f0 := BXL.free0; have f1 := BXL.free1; have b0 := BXL.cell0; have b1 := BXL.cell1
        go_simp

        clear f0 f1 b0 b1
        have k19 := (k1.other (C := bk) (by omega) 0 (.int .i64 lhs.low)).other (C := bk) (by omega) 1 (.slice x1 x2 x3)
        have k29 := (k2.other (C := bk) (by omega) 0 (.int .i64 lhs.low)).other (C := bk) (by omega) 1 (.slice x1 x2 x3)
        refine hK.out _ _ (⟨k19.cell0, k19.cell1, k29.cell0, k29.cell1⟩) (fun hHeld => ?_)
        clear hK K
        try simp only [Act.put, List.setIfInBounds_toArray, List.set_cons_zero, List.set_cons_succ]
        refine' wpAnyH_take (i := 14) (oi := ?oiz169) (v := ?vz169) ?haz169 (by kernel_rfl) ?hfz169 ?hrz169 ?hQz169 (Or.inl ⟨?hwz169, ?hyz169⟩) (by assumption) ?restz169
        case haz169 => (simp only [List.getElem?_toArray, List.getElem?_cons_succ, List.getElem?_cons_zero]; exact rfl)
        case hQz169 => exact fun _ _ _ h => h
        case hfz169 => kernel_rfl
        case hrz169 => kernel_rfl
        case hwz169 => rfl
        case hyz169 => (intro w hSw; (try dsimp only at hSw); obtain ⟨e1, e2, e3, e4⟩ := hSw; go_simp; (try with_reducible rfl))
        try simp only [Act.put, List.setIfInBounds_toArray, List.set_cons_zero, List.set_cons_succ]
        refine wpAnyH_done (by kernel_rfl) ?_ _
        have hne7 : ∀ b, Go.Sl.row (.slice x1 x2 x3) = some b → bk ≠ b := Own.ne_of_type (by decide) T9 BXL
        go_wp2_with fail
        go_meet
        case rel => exact ⟨bk, _, rfl, rfl, BXL.set _ _, ((T9.setOther (fun b hb => hne7 b hb) _).setOther (fun b hb => hne7 b hb) _).ints, (BEL.setCell (p := ⟨bk, 0, none⟩) hbk _).setCell (p := ⟨bk, 1, none⟩) hbk _⟩
  case rest =>
    obtain ⟨b, v, rfl, rfl, kL, iL, bL⟩ := hcut
    have svL := iL.isSl
    have KL := Lib.hid kL; have IL := Lib.hid iL
    replace K3 := Lib.hid (K3.out.below bL); replace S3 := Lib.hid (S3.out.below bL); replace HB := Lib.hid (Below.chain HB.out bL)
    have c0 := K3.out.cell0; have c1 := K3.out.cell1; have hl3 := K3.out.lt
    clear kL iL bL K1 K2 S1 S2
    go_wp2_with fail
    refine (mul_calls litr p3 _ _ _ (ints_lit (w := wc) [1, 0, 0, 0, -1] rfl rfl rfl (by simp)) (S3.out.alloc _) litr_ok Q3.out O4.out).mono ?_
    rw [← O5.out]
    rintro e w1 ⟨r1, rfl, ho, hb⟩
    have hbb := Below.chain ((Below.refl _ _).alloc (Nat.le_refl _) _) hb
    have sr1 := ho.isSl
    have IR := Lib.hid ho.ints
    replace KL := Lib.hid (KL.out.below hbb); replace IL := Lib.hid (IL.out.below hbb); replace HB := Lib.hid (Below.chain HB.out hbb)
    clear ho hb hbb c0 c1 hl3 K3 S3
    obtain ⟨W9, hW9⟩ : ∃ A, A = World.alloc w1 (.cells #[.int .i64 lhs.low, r1] 35) := ⟨_, rfl⟩
    have g9 : Below w1.heap.size w1 W9 := by rw [hW9]; exact (Below.refl _ _).alloc (Nat.le_refl _) _
    have kR : Pair W9 w1.heap.size 35 (.int .i64 lhs.low) r1 := by rw [hW9]; exact pair_new _ _ _ _
    have KR := Lib.hid kR; have hW9' := hW9.symm
    replace KL := Lib.hid (KL.out.below g9); replace IL := Lib.hid (IL.out.below g9); replace IR := Lib.hid (IR.out.below g9); replace HB := Lib.hid (Below.chain HB.out g9)
    clear hW9 g9 kR
    go_wp2_with fail
    clear hW9'
    refine (jonesed_calls _).mono ?_
    rintro e w2 ⟨rfl, hb⟩
    replace KL := Lib.hid (KL.out.below hb); replace KR := Lib.hid (KR.out.below hb); replace IL := Lib.hid (IL.out.below hb); replace IR := Lib.hid (IR.out.below hb); replace HB := Lib.hid (Below.chain HB.out hb)
    have c0 := KL.out.cell0; have c1 := KL.out.cell1; have d0 := KR.out.cell0; have d1 := KR.out.cell1
    clear hb
    go_wp2_with fail
    refine (same_yes lhs lhs _ _ _ IL.out IR.out rfl).mono ?_
    rintro e w3 ⟨rfl, hb⟩
    replace HB := Lib.hid (Below.chain HB.out hb)
    clear hb c0 c1 d0 d1
    go_wp2_with fail
    go_ret
    exact ⟨rfl, HB.out⟩
end Go.Proofs.Ytckopilciekfbaa


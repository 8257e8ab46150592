/- jonesMirror: for every input the statement returns true, and nothing that was there has changed. -/
import Derived.Test.YtckopilciekfbaaQJonesMirror0
import Derived.Test.YtckopilciekfbaaQJonesMirror1
import Derived.Test.YtckopilciekfbaaQJonesMirror2
import Derived.Test.YtckopilciekfbaaQJonesMirror3
import Derived.Test.YtckopilciekfbaaQJonesMirror4
import Derived.Test.YtckopilciekfbaaQJonesMirror5
import Derived.Test.YtckopilciekfbaaQJonesMirror6
import Derived.Test.YtckopilciekfbaaQJonesMirror7
import Derived.Test.YtckopilciekfbaaQJonesMirror8
import Derived.Test.YtckopilciekfbaaQJonesMirror9
import Derived.Test.YtckopilciekfbaaQJonesMirror10
import Derived.Test.YtckopilciekfbaaQJonesMirror11
import Derived.Test.YtckopilciekfbaaQJonesMirror12
import Derived.Test.YtckopilciekfbaaQJonesMirror13
import Derived.Test.YtckopilciekfbaaQJonesMirror14
import Derived.Test.YtckopilciekfbaaQJonesMirror15
import Derived.Test.YtckopilciekfbaaQJonesMirror16
import Derived.Test.YtckopilciekfbaaQJonesMirror17
import Derived.Test.YtckopilciekfbaaQJonesMirror18
import Derived.Test.YtckopilciekfbaaQJonesMirror19
import Derived.Test.YtckopilciekfbaaQJonesMirror20
import Derived.Test.YtckopilciekfbaaQJonesMirror21
import Derived.Test.YtckopilciekfbaaQJonesMirror22
import Derived.Test.YtckopilciekfbaaQJonesMirror23
import Derived.Test.YtckopilciekfbaaQJonesMirror24
import Derived.Test.YtckopilciekfbaaQJonesMirror25
import Derived.Test.YtckopilciekfbaaQJonesMirror26
import Derived.Test.YtckopilciekfbaaQJonesMirror27
import Derived.Test.YtckopilciekfbaaQJonesMirror28
import Derived.Test.YtckopilciekfbaaQJonesMirror29
import Derived.Test.YtckopilciekfbaaQJonesMirror30
import Derived.Test.YtckopilciekfbaaQJonesMirror31
import Derived.Test.YtckopilciekfbaaQJonesMirror32
import Derived.Test.YtckopilciekfbaaQJonesMirror33
import Derived.Test.YtckopilciekfbaaQJonesMirror34
import Derived.Test.YtckopilciekfbaaQJonesMirror35
import Derived.Test.YtckopilciekfbaaQJonesMirror36
import Derived.Test.YtckopilciekfbaaQJonesMirror37
import Derived.Test.YtckopilciekfbaaQJonesMirror38
import Derived.Test.YtckopilciekfbaaQJonesMirror39
import Derived.Deep.RegionLaw
import Derived.RangeFuncNested
import Derived.RangeFuncCalls
import Derived.OrdersIn
import Derived.OrdersHeld
import Derived.Deep.RegionHeld
import Derived.Deep.CutRange
namespace Go.Proofs.Ytckopilciekfbaa
open Go.RowKit Go.Sl Go.Mp Go.TL

theorem pok_jones10 {p : LP} {L : Nat} (hl : L ≤ 10) (ht : Trimmed p) (hw : Within p (-(6 * (L : Int) + 10)) (6 * (L : Int) + 11)) (hn : n1 p.c ≤ 3 ^ L * 32) : POk p ∧ POk (pconj p) := by
  have b := pow3_le (k := L) (by omega)
  have hc := within_pconj hw
  exact ⟨POk.of ht hw (by omega) (by omega) (by omega) (by omega) (Nat.le_trans hn (by omega)), POk.of (pconj_trimmed p) (hc.mono (lo' := -100) (hi' := 100) (by omega) (by omega)) (by omega) (by omega) (by omega) (by omega) (Nat.le_trans (n1_pconj p) (Nat.le_trans hn (by omega)))⟩
theorem invL_neg (xs : List Int) : invL (xs.map (- ·)) = xs.reverse := by
  unfold invL
  rw [List.map_map]
  congr 1
  have : ((fun x : Int => -x) ∘ fun x : Int => -x) = id := by funext x; simp
  rw [this, List.map_id]
theorem mirror_all {n N Tr : Nat} {S : List (List Nat)} {P : List Nat} {F : Nat → Nat} (H : MJ n N S P Tr) (G : MF n N P Tr F) {X : List Int} (hX : NWord n X) {p q r : LP} (hp : Trimmed p) (hq : Trimmed q) (hr : Trimmed r)
    (vp : ∀ t : Rat, t ≠ 0 → ev p t = jonesV P N Tr t X) (vq : ∀ t : Rat, t ≠ 0 → ev q t = jonesV P N Tr t (X.map (- ·))) (vr : ∀ t : Rat, t ≠ 0 → ev r t = jonesV P N Tr t X.reverse) : pconj p = q ∧ r = p := by
  refine ⟨ev_ext (pconj_trimmed p) hq fun t ht => ?_, ev_ext hr hp fun t ht => ?_⟩
  · rw [ev_pconj p ht, vp _ (inv_ne ht), vq t ht, jones_mirror ht fun x hx => (hX x hx).1]
  · rw [vr t ht, vp t ht, jones_reverse H G hX]

set_option maxHeartbeats 8000000 in
set_option maxRecDepth 100000 in
theorem jonesMirror_true {w0 : World} (n : Int) (hn : I64 n) (a : Value) (as1 : List Int) (hra : Ints w0 a as1) (hxa : ∀ x ∈ as1, I64 x) (w : World) (hw : w = w0 := by rfl) :
    Calls Try.prog 8 #[.int .i64 n, a] w fun e w' => e = .returned (.bool true) ∧ Below w.heap.size w w' := by
  subst hw
  obtain ⟨N0, hN⟩ : ∃ N : Nat, 2 + n % (6 - 1) = (N : Int) := ⟨(2 + n % (6 - 1)).toNat, by omega⟩
  have hN1 : 2 ≤ N0 := by omega
  have hN2 : N0 ≤ 6 := by omega
  have hN3 : 1 ≤ N0 := by omega
  obtain ⟨M, S, P, Tr, F, H, G⟩ := mjf_all N0 hN1 hN2
  have sa := hra.isSl
  obtain ⟨X, hX⟩ : ∃ X, X = wordL ((N0 : Int) - 1) as1 10 := ⟨_, rfl⟩
  have hwN : IntKind.i64.wrap ((N0 : Int) - 1) = (N0 : Int) - 1 := IntWalk.i64_in _ ⟨by omega, by omega⟩
  have bX : BWord (N0 : Int) X := by rw [hX]; exact wordL_bw (by omega) as1 10
  have lX : X.length ≤ 10 := by rw [hX]; exact wordL_length _ as1 10
  have nX : NWord N0 X := fun x hx => by have := bX x hx; omega
  have nM : NWord N0 (X.map (- ·)) := fun x hx => by
    obtain ⟨y, hy, rfl⟩ := List.mem_map.1 hx
    have := bX y hy; omega
  have nR : NWord N0 X.reverse := fun x hx => nX x (by simpa using hx)
  have bM : BWord (N0 : Int) (X.map (- ·)) := bword_of nM
  have J1 := Lib.hid (fun W v hv => jones_calls H hN3 hN2 v X W hv nX (by omega))
  have J2 := Lib.hid (fun W v hv => jones_calls H hN3 hN2 v (X.map (- ·)) W hv nM (by simp; omega))
  have J3 := Lib.hid (fun W v hv => jones_calls H hN3 hN2 v X.reverse W hv nR (by simp; omega))
  have IV := Lib.hid (fun W v hv => binverse_calls (N0 : Int) v (X.map (- ·)) W hv (by omega) (by omega) bM (by simp; omega))
  have HALL := Lib.hid (fun (p q r : LP) (hp : Trimmed p) (hq : Trimmed q) (hr : Trimmed r) vp vq vr => mirror_all H G nX hp hq hr vp vq vr)
  rw [invL_neg] at IV
  obtain ⟨L, hL⟩ : ∃ L, X.length = L := ⟨_, rfl⟩
  rw [hL] at lX
  have HN := Lib.hid hN; have HX := Lib.hid hX.symm; have HL := Lib.hid hL; have BX := Lib.hid bX
  have RA := Lib.hid hra; have XA := Lib.hid hxa
  clear hN hX H G bX nX nM nR bM hL hra hxa
  go_enter Try.func8, Try.ntmps8
  go_wp2_with fail
  refine (strands_calls n 6 w hn (by decide) (by decide)).mono ?_
  rw [HN.out]
  rintro e w' ⟨rfl, rfl⟩
  go_wp2_with fail
  refine (word_calls ((N0 : Int) - 1) a as1 10 _ RA.out XA.out (by omega) (by omega) (by decide)).mono ?_
  rintro e u1 ⟨x, rfl, ho, hb⟩
  rw [HX.out] at ho
  have sx := ho.isSl
  have IX0 := ho.ints
  clear ho
  have IX := Lib.hid (IX0)
  replace RA := Lib.hid (RA.out.below hb)
  have HB := Lib.hid hb
  clear hb
  have lx := IX.out.len
  rw [HL.out] at lx
  go_wp2_with fail
  go_loopw [6, 27] (fun out i wr => ∃ k : Nat, k ≤ L ∧ i = .int .i64 k ∧ OwnI wr u1.heap.size out ((X.take k).map (- ·)) ∧ Below u1.heap.size u1 wr) (fun _ i _ => L - (intOf i).toNat)
  case atStart => exact ⟨0, Nat.zero_le _, rfl, ownI_nil _ _, Below.refl _ _⟩
  case round =>
    obtain ⟨k, hk, rfl, ho, hbr⟩ := hrel
    have hbs := hbr.size
    by_cases hlt : k < L
    · have c1 := (IX.out.below hbr).cell (k := k) (by rw [HL.out]; exact hlt)
      have hxb := BX.out (nth X k) (nth_mem (by rw [HL.out]; exact hlt))
      have hll : ((X.take k).map (- ·)).length ≤ 1000 := by simp; omega
      have hnx : (X.take k).map (- ·) ++ [-(nth X k)] = (X.take (k + 1)).map (- ·) := by
        have hk2 : k < X.length := by rw [HL.out]; exact hlt
        rw [List.take_succ_eq_append_getElem hk2, List.map_append, nth_lt hk2]; rfl
      obtain ⟨z, hz⟩ : ∃ z, nth X k = z := ⟨_, rfl⟩
      rw [hz] at c1 hxb hnx
      obtain ⟨hz0, hz1, hz2⟩ := hxb
      have HXX := Lib.hid hnx; have HBR := Lib.hid hbr
      clear hnx hbr hz
      go_wp2_with (at_builtin; refine wpList_push (v := u6) rfl _ _ rfl rfl rfl ho hbs (by omega) ?_; intro out2 w2 ho2 hg2 hr2)
      rw [HXX.out] at ho2
      have hb2 : Below u1.heap.size u1 w2 := Below_of_grown HBR.out hg2 hbs (fun b hb => (ho.lt b hb).1)
      go_roundw
      case rel => exact ⟨k + 1, by omega, by go_num, ho2, hb2⟩
      case measure => simp [intOf]; omega
    · obtain rfl : k = L := by omega
      rw [List.take_of_length_le (by rw [HL.out]; exact Nat.le_refl _)] at ho
      have sm := ho.isSl
      have IM := Lib.hid ho.ints
      replace IX := Lib.hid (IX.out.below hbr); replace HB := Lib.hid (Below.chain HB.out hbr)
      clear ho hbr hbs RA
      go_wp2_with fail
      refine (J1.out _ _ IX.out).mono ?_
      rintro e v1 ⟨p1, s, rfl, hs, t1, t2, t3, t4, hb⟩
      obtain ⟨a1, b1, c1, rfl, -⟩ := hs.isSl.cases
      have ss1 := hs.isSl
      replace IX := Lib.hid (IX.out.below hb)
      replace IM := Lib.hid (IM.out.below hb)
      replace HB := Lib.hid (Below.chain HB.out hb)
      obtain ⟨A1, hA1⟩ : ∃ A, A = World.alloc v1 (.cells #[.int .i64 p1.low, .slice a1 b1 c1] 35) := ⟨_, rfl⟩
      have gA : Below v1.heap.size v1 A1 := by rw [hA1]; exact (Below.refl _ _).alloc (Nat.le_refl _) _
      have pA : Pair A1 v1.heap.size 35 (.int .i64 p1.low) (.slice a1 b1 c1) := by rw [hA1]; exact pair_new _ _ _ _
      have S1 := Lib.hid (hs.ints.below gA); have K1 := Lib.hid pA; have hA1' := hA1.symm
      replace IX := Lib.hid (IX.out.below gA)
      replace IM := Lib.hid (IM.out.below gA)
      replace HB := Lib.hid (Below.chain HB.out gA)
      have T1 := Lib.hid (And.intro t1 (And.intro t2 (And.intro t3 t4)))
      clear hs t1 t2 t3 t4 hb gA pA hA1
      go_wp2_with fail
      clear hA1'
      refine (J2.out _ _ IM.out).mono ?_
      rintro e v2 ⟨p2, s, rfl, hs, t1, t2, t3, t4, hb⟩
      obtain ⟨a2, b2, c2, rfl, -⟩ := hs.isSl.cases
      have ss2 := hs.isSl
      replace IX := Lib.hid (IX.out.below hb)
      replace IM := Lib.hid (IM.out.below hb)
      replace S1 := Lib.hid (S1.out.below hb)
      replace K1 := Lib.hid (K1.out.below hb)
      replace HB := Lib.hid (Below.chain HB.out hb)
      obtain ⟨A2, hA2⟩ : ∃ A, A = World.alloc v2 (.cells #[.int .i64 p2.low, .slice a2 b2 c2] 35) := ⟨_, rfl⟩
      have gA : Below v2.heap.size v2 A2 := by rw [hA2]; exact (Below.refl _ _).alloc (Nat.le_refl _) _
      have pA : Pair A2 v2.heap.size 35 (.int .i64 p2.low) (.slice a2 b2 c2) := by rw [hA2]; exact pair_new _ _ _ _
      have S2 := Lib.hid (hs.ints.below gA); have K2 := Lib.hid pA; have hA2' := hA2.symm
      replace IX := Lib.hid (IX.out.below gA)
      replace IM := Lib.hid (IM.out.below gA)
      replace S1 := Lib.hid (S1.out.below gA)
      replace K1 := Lib.hid (K1.out.below gA)
      replace HB := Lib.hid (Below.chain HB.out gA)
      have T2 := Lib.hid (And.intro t1 (And.intro t2 (And.intro t3 t4)))
      clear hs t1 t2 t3 t4 hb gA pA hA2
      go_wp2_with fail
      clear hA2'
      refine (IV.out _ _ IM.out).mono ?_
      rintro e u5 ⟨y, rfl, ho, hb⟩
      have sy := ho.isSl
      have IY := Lib.hid ho.ints
      replace S1 := Lib.hid (S1.out.below hb); replace K1 := Lib.hid (K1.out.below hb); replace S2 := Lib.hid (S2.out.below hb); replace K2 := Lib.hid (K2.out.below hb); replace HB := Lib.hid (Below.chain HB.out hb)
      clear ho hb IM IX
      go_wp2_with fail
      refine (J3.out _ _ IY.out).mono ?_
      rintro e v3 ⟨p3, s, rfl, hs, t1, t2, t3, t4, hb⟩
      obtain ⟨a3, b3, c3, rfl, -⟩ := hs.isSl.cases
      have ss3 := hs.isSl
      replace S1 := Lib.hid (S1.out.below hb)
      replace K1 := Lib.hid (K1.out.below hb)
      replace S2 := Lib.hid (S2.out.below hb)
      replace K2 := Lib.hid (K2.out.below hb)
      replace HB := Lib.hid (Below.chain HB.out hb)
      obtain ⟨A3, hA3⟩ : ∃ A, A = World.alloc v3 (.cells #[.int .i64 p3.low, .slice a3 b3 c3] 35) := ⟨_, rfl⟩
      have gA : Below v3.heap.size v3 A3 := by rw [hA3]; exact (Below.refl _ _).alloc (Nat.le_refl _) _
      have pA : Pair A3 v3.heap.size 35 (.int .i64 p3.low) (.slice a3 b3 c3) := by rw [hA3]; exact pair_new _ _ _ _
      have S3 := Lib.hid (hs.ints.below gA); have K3 := Lib.hid pA; have hA3' := hA3.symm
      replace S1 := Lib.hid (S1.out.below gA)
      replace K1 := Lib.hid (K1.out.below gA)
      replace S2 := Lib.hid (S2.out.below gA)
      replace K2 := Lib.hid (K2.out.below gA)
      replace HB := Lib.hid (Below.chain HB.out gA)
      have T3 := Lib.hid (And.intro t1 (And.intro t2 (And.intro t3 t4)))
      clear hs t1 t2 t3 t4 hb gA pA hA3
      obtain ⟨e1, e2⟩ := HALL.out p1 p2 p3 T1.out.1 T2.out.1 T3.out.1 T1.out.2.2.2 T2.out.2.2.2 T3.out.2.2.2
      obtain ⟨o1, o2⟩ := pok_jones10 (L := X.length) (by rw [HL.out]; exact lX) T1.out.1 T1.out.2.1 T1.out.2.2.1
      have E1 := Lib.hid e1; have E2 := Lib.hid e2; have O1 := Lib.hid o1; have O2 := Lib.hid o2
      have c0 := K1.out.cell0; have c1 := K1.out.cell1; have hk1 := K1.out.lt
      clear e1 e2 o1 o2
      go_wp2_with fail
      clear hA3' c0 c1
      refine (conjugate_calls p1 _ _ S1.out O1.out O2.out).mono ?_
      rw [E1.out]
      rintro e w6 ⟨s, rfl, hs, hb⟩
      obtain ⟨a6, b6, c6, rfl, -⟩ := hs.isSl.cases
      have ss6 := hs.isSl
      replace S1 := Lib.hid (S1.out.below hb)
      replace K1 := Lib.hid (K1.out.below hb)
      replace S2 := Lib.hid (S2.out.below hb)
      replace K2 := Lib.hid (K2.out.below hb)
      replace S3 := Lib.hid (S3.out.below hb)
      replace K3 := Lib.hid (K3.out.below hb)
      replace HB := Lib.hid (Below.chain HB.out hb)
      obtain ⟨A6, hA6⟩ : ∃ A, A = World.alloc w6 (.cells #[.int .i64 p2.low, .slice a6 b6 c6] 35) := ⟨_, rfl⟩
      have gA : Below w6.heap.size w6 A6 := by rw [hA6]; exact (Below.refl _ _).alloc (Nat.le_refl _) _
      have pA : Pair A6 w6.heap.size 35 (.int .i64 p2.low) (.slice a6 b6 c6) := by rw [hA6]; exact pair_new _ _ _ _
      have S6 := Lib.hid (hs.ints.below gA); have K6 := Lib.hid pA; have hA6' := hA6.symm
      replace S1 := Lib.hid (S1.out.below gA)
      replace K1 := Lib.hid (K1.out.below gA)
      replace S2 := Lib.hid (S2.out.below gA)
      replace K2 := Lib.hid (K2.out.below gA)
      replace S3 := Lib.hid (S3.out.below gA)
      replace K3 := Lib.hid (K3.out.below gA)
      replace HB := Lib.hid (Below.chain HB.out gA)
      clear hs hb gA pA hA6
      go_wp2_with fail
      clear hA6'
      refine (jonesed_calls _).mono ?_
      rintro e w7 ⟨rfl, hb⟩
      replace S1 := Lib.hid (S1.out.below hb)
      replace K1 := Lib.hid (K1.out.below hb)
      replace S2 := Lib.hid (S2.out.below hb)
      replace K2 := Lib.hid (K2.out.below hb)
      replace S3 := Lib.hid (S3.out.below hb)
      replace K3 := Lib.hid (K3.out.below hb)
      replace S6 := Lib.hid (S6.out.below hb)
      replace K6 := Lib.hid (K6.out.below hb)
      replace HB := Lib.hid (Below.chain HB.out hb)
      have c0 := K6.out.cell0; have c1 := K6.out.cell1; have d0 := K2.out.cell0; have d1 := K2.out.cell1
      clear hb
      go_wp2_with fail
      refine (same_yes p2 p2 _ _ _ S6.out S2.out rfl).mono ?_
      rintro e w8 ⟨rfl, hb⟩
      replace S1 := Lib.hid (S1.out.below hb)
      replace K1 := Lib.hid (K1.out.below hb)
      replace S3 := Lib.hid (S3.out.below hb)
      replace K3 := Lib.hid (K3.out.below hb)
      replace HB := Lib.hid (Below.chain HB.out hb)
      clear hb c0 c1 d0 d1
      have c0 := K3.out.cell0; have c1 := K3.out.cell1; have d0 := K1.out.cell0; have d1 := K1.out.cell1
      go_wp2_with fail
      refine (same_yes p3 p1 _ _ _ S3.out S1.out E2.out).mono ?_
      rintro e w9 ⟨rfl, hb⟩
      replace HB := Lib.hid (Below.chain HB.out hb)
      clear hb c0 c1 d0 d1
      go_wp2_with fail
      go_ret
      exact ⟨rfl, HB.out⟩
end Go.Proofs.Ytckopilciekfbaa


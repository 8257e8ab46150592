/- jones.Bracket and jones.Polynomial walked. -/
import Derived.Test.YtplekfgadbjgdaaQTopSums0
import Derived.Test.YtplekfgadbjgdaaQTopSums1
import Derived.Test.YtplekfgadbjgdaaQTopSums2
import Derived.Test.YtplekfgadbjgdaaQTopSums3
import Derived.Test.YtplekfgadbjgdaaQTopSums4
import Derived.Test.YtplekfgadbjgdaaQTopSums5
import Derived.Test.YtplekfgadbjgdaaQTopSums6
import Derived.Test.YtplekfgadbjgdaaQTopSums7
import Derived.Test.YtplekfgadbjgdaaQTopSums8
import Derived.Test.YtplekfgadbjgdaaQTopSums9
import Derived.Test.YtplekfgadbjgdaaQTopSums10
import Derived.Test.YtplekfgadbjgdaaQTopSums11
import Derived.Test.YtplekfgadbjgdaaQTopSums12
import Derived.Test.YtplekfgadbjgdaaQTopSums13
import Derived.Test.YtplekfgadbjgdaaQTopSums14
import Derived.Test.YtplekfgadbjgdaaQTopSums15
import Derived.Test.YtplekfgadbjgdaaQTopSums16
import Derived.Test.YtplekfgadbjgdaaQTopSums17
import Derived.Test.YtplekfgadbjgdaaQTopSums18
import Derived.Test.YtplekfgadbjgdaaQTopSums19
import Derived.Test.YtplekfgadbjgdaaQTopSums20
import Derived.Test.YtplekfgadbjgdaaQTopSums21
import Derived.Test.YtplekfgadbjgdaaQTopSums22
import Derived.Test.YtplekfgadbjgdaaQTopSums23
import Derived.Test.YtplekfgadbjgdaaQTopSums24
import Derived.Test.YtplekfgadbjgdaaQTopSums25
import Derived.Test.YtplekfgadbjgdaaQTopSums26
import Derived.Test.YtplekfgadbjgdaaQTopSums27
import Derived.Test.YtplekfgadbjgdaaQTopSums28
import Derived.Test.YtplekfgadbjgdaaQTopSums29
import Derived.Test.YtplekfgadbjgdaaQTopSums30
import Derived.Test.YtplekfgadbjgdaaQTopSums31
import Derived.Test.YtplekfgadbjgdaaQTopSums32
import Derived.Test.YtplekfgadbjgdaaQTopSums33
import Derived.Test.YtplekfgadbjgdaaQTopSums34
import Derived.Test.YtplekfgadbjgdaaQTopSums37
import Derived.Test.YtplekfgadbjgdaaQTopSums38
import Derived.Test.YtplekfgadbjgdaaQTopSums42
import Derived.Test.YtplekfgadbjgdaaQTopSums43
import Derived.Test.YtplekfgadbjgdaaQTopSums44
import Derived.RangeFuncNested
import Derived.RangeFuncCalls
import Derived.OrdersIn
import Derived.OrdersHeld
import Derived.Deep.RegionHeld
import Derived.RangeFuncBound
import Derived.RangeFuncLeaves
import Derived.RangeFuncBox
import Derived.Shelf.Abstract
import Derived.Shelf.RegionOpen
import Derived.OwnWalkIn
import Derived.TacticsInMore
import Derived.LoopNIn
import Derived.LoopIn
import Derived.Maps.AppendAt
import Derived.Deep.RegionLaw
namespace Go.Proofs.Ytplekfgadbjgdaa
open Go.RowKit Go.Sl Go.Mp Go.TL

theorem bword_of {n : Nat} {xs : List Int} (h : NWord n xs) : BWord (n : Int) xs := fun x hx => by have := h x hx; omega

set_option maxRecDepth 100000 in
set_option maxHeartbeats 4000000 in
theorem jBracket_calls {n N : Nat} {S : List (List Nat)} {P : List Nat} {Tr : Nat} (H : MJ n N S P Tr) (h1 : 1 ≤ n) (h6 : n ≤ 6) (wv : Value) (xs : List Int) (w : World) (hw : Ints w wv xs) (hx : NWord n xs) (hl : xs.length ≤ 12) :
    Calls Try.prog 68 #[.int .i64 n, wv] w fun e w' => ∃ p s, e = .returned (.tuple #[.agg #[.int .i64 p.low, s], .int .i64 0]) ∧ OwnI w' w.heap.size s p.c ∧ Trimmed p ∧ Within p (-(3 * (xs.length : Int) + 10)) (3 * (xs.length : Int) + 11) ∧ n1 p.c ≤ 3 ^ xs.length * 32 ∧ (∀ t : Rat, t ≠ 0 → ev p t = bracketJ P N Tr t xs) ∧ Below w.heap.size w w' := by
  have sw := hw.isSl
  have lw := hw.len
  have hbw := bword_of hx
  have hlt : ¬ ((xs.length : Int) > 12) := by omega
  obtain ⟨W1, hW1⟩ : ∃ W1, W1 = w.alloc (.cells #[.int .i64 0, .slice none 0 0] 40) := ⟨_, rfl⟩
  have b1 : Below w.heap.size w W1 := by rw [hW1]; exact (Below.refl _ _).alloc (Nat.le_refl _) _
  have p1 : Pair W1 w.heap.size 40 (.int .i64 0) (.slice none 0 0) := by rw [hW1]; exact pair_new _ _ _ _
  have z1 : w.heap.size < W1.heap.size := by rw [hW1]; simp
  have HW1 := Lib.hid hW1.symm; have B1 := Lib.hid b1; have P1 := Lib.hid p1; have HX := Lib.hid hx; have HBW := Lib.hid hbw; have HW := Lib.hid (hw.below b1); have HH := Lib.hid H
  obtain ⟨L, hL⟩ : ∃ L, xs.length = L := ⟨_, rfl⟩
  have HL := Lib.hid hL
  rw [hL] at lw hlt hl
  clear hW1 b1 p1 hx hbw hw H hL
  go_enter Try.func68, Try.ntmps68
  go_wp2_with fail
  rw [HW1.out]
  refine (bcheck_calls (n : Int) wv xs _ HW.out (by omega) (by omega) HBW.out (by rw [HL.out]; omega)).mono ?_
  rintro e u1 ⟨rfl, hb⟩
  replace HW := Lib.hid (HW.out.below hb); replace P1 := Lib.hid (P1.out.below hb); replace B1 := Lib.hid (Below.chain B1.out hb)
  clear hb
  go_wp2_with fail
  refine (bracket_calls HH.out h1 h6 wv xs _ HW.out HX.out (by rw [HL.out]; exact hl)).mono ?_
  rintro e u2 ⟨p, s, rfl, hs, f1, f2, f3, f4, hb⟩
  have hsz := B1.out.size
  have q := P1.out.below hb
  have o := hs.low hsz
  have BE := Lib.hid (Below.chain B1.out hb)
  have hne : ∀ b, Go.Sl.row s = some b → w.heap.size ≠ b := fun b hb e => by have := (hs.lt b hb).1; have := P1.out.lt; omega
  obtain ⟨s1, s2, s3, rfl, -⟩ := hs.isSl.cases
  have ss := hs.isSl
  have e0 := q.cell0; have e1 := q.cell1; have f00 := q.free0; have f10 := q.free1; have hlt2 := q.lt
  have HO := Lib.hid o; have HNE := Lib.hid hne; have F4 := Lib.hid f4; have F3 := Lib.hid f3; have F2 := Lib.hid f2; have F1 := Lib.hid f1
  clear hs hb q o hne f1 f2 f3 f4
  go_wp2_with fail
  refine bodyPost_ret (v := .tuple #[.agg #[.int .i64 p.low, .slice s1 s2 s3], .int .i64 0]) (by simp [results, Try.results68, go_sem, e0, e1]) rfl ⟨p, _, rfl, ?_, F1.out, F2.out, F3.out, F4.out, ?_⟩
  · exact (HO.out.setOther (fun b hb => HNE.out b hb) _).setOther (fun b hb => HNE.out b hb) _
  · exact (BE.out.setCell (p := ⟨w.heap.size, 0, none⟩) (by simp) _).setCell (p := ⟨w.heap.size, 1, none⟩) (by simp) _

def signJ (s : Int) : Int := if s % 2 = 0 then 1 else -1
def normJ (p : LP) (s : Int) : LP := pmul p (pterm (signJ s) (-3 * s))
/-- The value of the polynomial of a closed braid. -/
def jonesV (P : List Nat) (N Tr : Nat) (t : Rat) (xs : List Int) : Rat := bracketJ P N Tr t xs * (signJ (sumL xs) * t ^ (-3 * sumL xs))
theorem ev_normJ {P : List Nat} {N Tr : Nat} {p : LP} {xs : List Int} (h : ∀ t : Rat, t ≠ 0 → ev p t = bracketJ P N Tr t xs) (t : Rat) (ht : t ≠ 0) : ev (normJ p (sumL xs)) t = jonesV P N Tr t xs := by
  unfold normJ jonesV
  rw [ev_pmul _ _ ht, ev_pterm _ _ ht, h t ht]
theorem tmod_sign {s : Int} : (s.tmod 2 != 0) = decide (signJ s = -1) := by
  unfold signJ
  by_cases h : s % 2 = 0
  · rw [if_pos h]
    have : s.tmod 2 = 0 := by rw [Int.tmod_eq_emod]; split <;> omega
    rw [this]; rfl
  · rw [if_neg h]
    have : s.tmod 2 ≠ 0 := by rw [Int.tmod_eq_emod]; split <;> omega
    simp [this]
theorem signJ_or (s : Int) : signJ s = 1 ∨ signJ s = -1 := by unfold signJ; split <;> simp
def JonesRes (P : List Nat) (N Tr : Nat) (xs : List Int) (w w' : World) (e : Ending) : Prop :=
  ∃ p s, e = .returned (.tuple #[.agg #[.int .i64 p.low, s], .int .i64 0]) ∧ OwnI w' w.heap.size s p.c ∧ Trimmed p ∧ Within p (-(6 * (xs.length : Int) + 10)) (6 * (xs.length : Int) + 11) ∧ n1 p.c ≤ 3 ^ xs.length * 32 ∧ (∀ t : Rat, t ≠ 0 → ev p t = jonesV P N Tr t xs) ∧ Below w.heap.size w w'

set_option maxRecDepth 100000 in
set_option maxHeartbeats 4000000 in
theorem jones_calls {n N : Nat} {S : List (List Nat)} {P : List Nat} {Tr : Nat} (H : MJ n N S P Tr) (h1 : 1 ≤ n) (h6 : n ≤ 6) (wv : Value) (xs : List Int) (w : World) (hw : Ints w wv xs) (hx : NWord n xs) (hl : xs.length ≤ 12) :
    Calls Try.prog 26 #[.int .i64 n, wv] w fun e w' => JonesRes P N Tr xs w w' e := by
  have sw := hw.isSl
  have lw := hw.len
  have hbw := bword_of hx
  have hsb := sumL_bound xs
  obtain ⟨W1, hW1⟩ : ∃ W1, W1 = w.alloc (.cells #[.int .i64 0, .slice none 0 0] 40) := ⟨_, rfl⟩
  have b1 : Below w.heap.size w W1 := by rw [hW1]; exact (Below.refl _ _).alloc (Nat.le_refl _) _
  have p1 : Pair W1 w.heap.size 40 (.int .i64 0) (.slice none 0 0) := by rw [hW1]; exact pair_new _ _ _ _
  have z1 : w.heap.size < W1.heap.size := by rw [hW1]; simp
  obtain ⟨L, hL⟩ : ∃ L, xs.length = L := ⟨_, rfl⟩
  obtain ⟨sm, hsm⟩ : ∃ s, sumL xs = s := ⟨_, rfl⟩
  rw [hsm, hL] at hsb
  obtain ⟨sg, hsg⟩ : ∃ s, signJ sm = s := ⟨_, rfl⟩
  have hsg1 := signJ_or sm
  have htm := tmod_sign (s := sm)
  rw [hsg] at hsg1 htm
  have hm3 : (-3 : Int) * sm = -(3 * sm) := by omega
  have hsb1 : -12 ≤ sm := by omega
  have hsb2 : sm ≤ 12 := by omega
  have HW1 := Lib.hid hW1.symm; have B1 := Lib.hid b1; have P1 := Lib.hid p1; have HX := Lib.hid hx; have HBW := Lib.hid hbw; have HW := Lib.hid (hw.below b1); have HH := Lib.hid H
  have HL := Lib.hid hL; have HSM := Lib.hid hsm; have HSG := Lib.hid hsg; have HTM := Lib.hid htm
  rw [hL] at lw hl
  clear hW1 b1 p1 hx hbw hw H hL hsm hsg htm hm3
  go_enter Try.func26, Try.ntmps26
  go_wp2_with fail
  rw [HW1.out]
  refine (jBracket_calls HH.out h1 h6 wv xs _ HW.out HX.out (by rw [HL.out]; exact hl)).mono ?_
  rintro e u2 ⟨p, s, rfl, hs, f1, f2, f3, f4, hb⟩
  have hsz := B1.out.size
  have HPS := Lib.hid hs
  replace P1 := Lib.hid (P1.out.below hb); replace B1 := Lib.hid (Below.chain B1.out hb); replace HW := Lib.hid (HW.out.below hb)
  have hus := hb.size
  obtain ⟨s1, s2, s3, rfl, -⟩ := hs.isSl.cases
  have ss := hs.isSl
  have F4 := Lib.hid f4; have F3 := Lib.hid f3; have F2 := Lib.hid f2; have F1 := Lib.hid f1
  clear hs hb f1 f2 f3 f4
  go_wp2_with fail
  obtain ⟨W3, hW3⟩ : ∃ W3, W3 = World.alloc u2 (.cells #[.int .i64 p.low, .slice s1 s2 s3] 40) := ⟨_, rfl⟩
  rw [← hW3]
  have p3 : Pair W3 u2.heap.size 40 (.int .i64 p.low) (.slice s1 s2 s3) := by rw [hW3]; exact pair_new _ _ _ _
  have b3 : Below u2.heap.size u2 W3 := by rw [hW3]; exact (Below.refl _ _).alloc (Nat.le_refl _) _
  have PS := HPS.out.ints.below b3
  have BX := P1.out.below b3
  have KP := p3
  have hne : w.heap.size ≠ u2.heap.size := by have := P1.out.lt; omega
  have BW := Lib.hid (Below.chain B1.out b3)
  have hkl : u2.heap.size < W3.heap.size := p3.lt
  replace HW := Lib.hid (HW.out.below b3)
  have hxl := HL.out
  have FP := Lib.hid (show PFit p ∧ n1 p.c ≤ 17006112 from ⟨pfit_trim F1.out F2.out (by omega) (by omega), Nat.le_trans F3.out (by
    have := pow3_le (k := xs.length) (by omega)
    omega)⟩)
  have FT := Lib.hid (show PFit (pterm sg (-3 * sm)) ∧ n1 (pterm sg (-3 * sm)).c ≤ 1 from ⟨pfit_trim (pterm_trimmed _ _) (within_pterm _ _) (by omega) (by omega), by
    have := n1_pterm sg (-3 * sm)
    rcases hsg1 with h | h <;> rw [h] at this ⊢ <;> simpa using this⟩)
  have FPT := Lib.hid (show n1 p.c * n1 (pterm sg (-3 * sm)).c ≤ 17006112 by have := Nat.mul_le_mul FP.out.2 FT.out.2; omega)
  have hnm : pmul p (pterm sg (-3 * sm)) = normJ p (sumL xs) := by unfold normJ; rw [HSM.out, HSG.out]
  obtain ⟨nm, hnmE⟩ : ∃ nm, normJ p (sumL xs) = nm := ⟨_, rfl⟩
  rw [hnmE] at hnm
  have HNM := Lib.hid hnm
  have R0 : Trimmed nm ∧ Within nm (-(6 * (xs.length : Int) + 10)) (6 * (xs.length : Int) + 11) ∧ n1 nm.c ≤ 3 ^ xs.length * 32 ∧ ∀ t : Rat, t ≠ 0 → ev nm t = jonesV P N Tr t xs := by
    refine ⟨by rw [← hnm]; exact pmul_trimmed _ _, by rw [← hnm]; exact (within_pmul F2.out (within_pterm _ _)).mono (by omega) (by omega), ?_, by rw [← hnmE]; exact ev_normJ F4.out⟩
    rw [← hnm]
    have h1 := n1_pmul p (pterm sg (-3 * sm))
    have h2 := Nat.mul_le_mul F3.out FT.out.2
    omega
  have HRES := Lib.hid R0
  clear hW3 p3 b3 hnm hnmE R0 HPS hxl
  refine (bsum_calls wv xs (n : Int) _ HW.out HBW.out (by omega) (by rw [HL.out]; omega)).mono ?_
  rw [HSM.out]
  rintro e w' ⟨rfl, rfl⟩
  have hm3 : IntKind.i64.wrap ((-3 : Int) * sm) = -3 * sm := IntWalk.i64_in _ ⟨by omega, by omega⟩
  have hm4 : IntKind.i64.wrap (-(3 * sm)) = -3 * sm := by rw [show -(3 * sm) = -3 * sm by omega]; exact hm3
  have HM3 := Lib.hid hm3; have HM4 := Lib.hid hm4
  clear hm3 hm4
  rcases hsg1 with rfl | rfl
  · have htm := HTM.out
    go_wp2_with fail
    clear htm
    have hm3 := HM3.out
    refine wp_region_held_drew (S := fun W => W.cell? ⟨u2.heap.size, 0, none⟩ = some (.int .i64 p.low) ∧ W.cell? ⟨u2.heap.size, 1, none⟩ = some (.slice s1 s2 s3)) (by kernel_rfl) (⟨KP.cell0, KP.cell1⟩) (fun hHeld => ?_)
    have BEL : Below (World.heap W3).size W3 (World.drew W3) := (Below.refl _ _).drew
    have KP := KP.below BEL
    have PS := PS.below BEL
    have BX := BX.below BEL
    obtain ⟨y0, hy0⟩ : ∃ y0, y0 = World.drew W3 := ⟨_, rfl⟩
    rw [← hy0] at BEL KP PS BX ⊢
    (try rw [← hy0] at hHeld)
    clear hy0
    refine' wpAnyH_take (i := 0) (oi := ?oiz1) (v := ?vz1) ?haz1 (by kernel_rfl) ?hfz1 ?hrz1 ?hQz1 (Or.inl ⟨?hwz1, ?hyz1⟩) (by assumption) ?restz1
    case haz1 => (simp only [List.getElem?_toArray, List.getElem?_cons_zero]; exact rfl)
    case hQz1 => exact fun _ _ _ h => h
    case hfz1 => kernel_rfl
    case hrz1 => kernel_rfl
    case hwz1 => rfl
    case hyz1 => (intro w hSw; (try dsimp only at hSw); obtain ⟨e1, e2⟩ := hSw; go_simp; (try with_reducible rfl))
    try simp only [Act.put, List.setIfInBounds_toArray, List.set_cons_zero, List.set_cons_succ]
    refine' wpAnyH_take (i := 1) (oi := ?oiz2) (v := ?vz2) ?haz2 (by kernel_rfl) ?hfz2 ?hrz2 ?hQz2 (Or.inl ⟨?hwz2, ?hyz2⟩) (by assumption) ?restz2
    case haz2 => (simp only [List.getElem?_toArray, List.getElem?_cons_succ, List.getElem?_cons_zero]; exact rfl)
    case hQz2 => exact fun _ _ _ h => h
    case hfz2 => kernel_rfl
    case hrz2 => kernel_rfl
    case hwz2 => rfl
    case hyz2 => (intro w hSw; (try dsimp only at hSw); obtain ⟨e1, e2⟩ := hSw; go_simp; (try with_reducible rfl))
    try simp only [Act.put, List.setIfInBounds_toArray, List.set_cons_zero, List.set_cons_succ]
    refine' wpAnyH_take (i := 2) (oi := ?oiz3) (v := ?vz3) ?haz3 (by kernel_rfl) ?hfz3 ?hrz3 ?hQz3 (Or.inl ⟨?hwz3, ?hyz3⟩) (by assumption) ?restz3
    case haz3 => (simp only [List.getElem?_toArray, List.getElem?_cons_succ, List.getElem?_cons_zero]; exact rfl)
    case hQz3 => exact fun _ _ _ h => h
    case hfz3 => kernel_rfl
    case hrz3 => kernel_rfl
    case hwz3 => rfl
    case hyz3 => (intro w hSw; (try dsimp only at hSw); obtain ⟨e1, e2⟩ := hSw; go_simp; (try with_reducible rfl))
    try simp only [Act.put, List.setIfInBounds_toArray, List.set_cons_zero, List.set_cons_succ]
    refine' wpAnyH_take (i := 3) (oi := ?oiz4) (v := ?vz4) ?haz4 (by kernel_rfl) ?hfz4 ?hrz4 ?hQz4 (Or.inl ⟨?hwz4, ?hyz4⟩) (by assumption) ?restz4
    case haz4 => (simp only [List.getElem?_toArray, List.getElem?_cons_succ, List.getElem?_cons_zero]; exact rfl)
    case hQz4 => exact fun _ _ _ h => h
    case hfz4 => kernel_rfl
    case hrz4 => kernel_rfl
    case hwz4 => rfl
    case hyz4 => (intro w hSw; (try dsimp only at hSw); obtain ⟨e1, e2⟩ := hSw; go_simp; (try with_reducible rfl))
    try simp only [Act.put, List.setIfInBounds_toArray, List.set_cons_zero, List.set_cons_succ]
    refine wpAnyH_ready (rs := [4]) (by kernel_rfl) (by simp) ?_
    refine' AllReadyH.cons (o := ?oiz8) ?haz8 (fun K hK => ?stepz8) AllReadyH.nil
    case haz8 => (simp only [List.getElem?_toArray, List.getElem?_cons_succ, List.getElem?_cons_zero]; exact rfl)
    go_simp
    go_at_call 71
    refine (term_calls _ _ y0 (by omega) (by omega)).mono ?_
    rintro e y1 ⟨t5, rfl, h5, sb⟩
    have s5 := h5.isSl
    have P5 := h5.ints
    clear h5
    replace KP := KP.below sb
    replace PS := PS.below sb
    replace BX := BX.below sb
    replace BEL := Below.chain BEL sb
    clear sb
    refine hK.out _ _ (⟨KP.cell0, KP.cell1⟩) (fun hHeld => ?_)
    clear hK K
    try simp only [Act.put, List.setIfInBounds_toArray, List.set_cons_zero, List.set_cons_succ]
    refine wpAnyH_ready (rs := [5]) (by kernel_rfl) (by simp) ?_
    refine' AllReadyH.cons (o := ?oiz7) ?haz7 (fun K hK => ?stepz7) AllReadyH.nil
    case haz7 => (simp only [List.getElem?_toArray, List.getElem?_cons_succ, List.getElem?_cons_zero]; exact rfl)
    go_simp
    go_at_call 70
    refine (ltimes_calls p _ (.slice s1 s2 s3) t5 y1 PS P5 FP.out.1.1 FT.out.1.1 FP.out.1.2 FT.out.1.2 (Nat.le_trans FPT.out (by omega))).mono ?_
    rintro e y2 ⟨v9, rfl, h9, sb⟩
    rw [HNM.out] at h9 ⊢
    have T9 := h9.low (B' := W3.heap.size) BEL.size
    have s9 := T9.isSl
    obtain ⟨x1, x2, x3, rfl, -⟩ := s9.cases
    clear h9
    clear P5
    replace KP := KP.below sb
    replace PS := PS.below sb
    replace BX := BX.below sb
    replace BEL := Below.chain BEL sb
    clear sb
    refine hK.out _ _ (⟨KP.cell0, KP.cell1⟩) (fun hHeld => ?_)
    clear hK K
    try simp only [Act.put, List.setIfInBounds_toArray, List.set_cons_zero, List.set_cons_succ]
    refine wpAnyH_ready (rs := [6]) (by kernel_rfl) (by simp) ?_
    refine' AllReadyH.cons (o := ?oiz6) ?haz6 (fun K hK => ?stepz6) AllReadyH.nil
    case haz6 => (simp only [List.getElem?_toArray, List.getElem?_cons_succ, List.getElem?_cons_zero]; exact rfl)
    have f0 := BX.free0; have f1 := BX.free1; have b0 := BX.cell0; have b1 := BX.cell1
    go_simp

    clear f0 f1 b0 b1
    have KP9 := (KP.other (C := w.heap.size) hne 0 (.int .i64 nm.low)).other (C := w.heap.size) hne 1 (.slice x1 x2 x3)
    refine hK.out _ _ (⟨KP9.cell0, KP9.cell1⟩) (fun hHeld => ?_)
    clear hK K
    try simp only [Act.put, List.setIfInBounds_toArray, List.set_cons_zero, List.set_cons_succ]
    refine' wpAnyH_take (i := 7) (oi := ?oiz5) (v := ?vz5) ?haz5 (by kernel_rfl) ?hfz5 ?hrz5 ?hQz5 (Or.inl ⟨?hwz5, ?hyz5⟩) (by assumption) ?restz5
    case haz5 => (simp only [List.getElem?_toArray, List.getElem?_cons_succ, List.getElem?_cons_zero]; exact rfl)
    case hQz5 => exact fun _ _ _ h => h
    case hfz5 => kernel_rfl
    case hrz5 => kernel_rfl
    case hwz5 => rfl
    case hyz5 => (intro w hSw; (try dsimp only at hSw); obtain ⟨e1, e2⟩ := hSw; go_simp; (try with_reducible rfl))
    try simp only [Act.put, List.setIfInBounds_toArray, List.set_cons_zero, List.set_cons_succ]
    refine wpAnyH_done (by kernel_rfl) ?_ _
    have Q9 := BX.set (.int .i64 nm.low) (.slice x1 x2 x3)
    have q0 := Q9.cell0; have q1 := Q9.cell1; have hq := BX.lt
    go_wp2_with fail
    have hne7 : ∀ b, Go.Sl.row (.slice x1 x2 x3) = some b → w.heap.size ≠ b := fun b hb e => by have := (T9.lt b hb).1; omega
    refine bodyPost_ret (v := .tuple #[.agg #[.int .i64 nm.low, .slice x1 x2 x3], .int .i64 0]) (by simp [results, Try.results26, go_sem, q0, q1]) rfl ⟨nm, _, rfl, ?_, HRES.out.1, HRES.out.2.1, HRES.out.2.2.1, HRES.out.2.2.2, ?_⟩
    · exact (((T9.low (by omega)).setOther (fun b hb => hne7 b hb) _).setOther (fun b hb => hne7 b hb) _)
    · exact ((BW.out.trans (BEL.mono BW.out.size)).setCell (p := ⟨w.heap.size, 0, none⟩) (by simp) _).setCell (p := ⟨w.heap.size, 1, none⟩) (by simp) _
  · have htm := HTM.out
    go_wp2_with fail
    clear htm
    have hm3 := HM3.out
    refine wp_region_held_drew (S := fun W => W.cell? ⟨u2.heap.size, 0, none⟩ = some (.int .i64 p.low) ∧ W.cell? ⟨u2.heap.size, 1, none⟩ = some (.slice s1 s2 s3)) (by kernel_rfl) (⟨KP.cell0, KP.cell1⟩) (fun hHeld => ?_)
    have BEL : Below (World.heap W3).size W3 (World.drew W3) := (Below.refl _ _).drew
    have KP := KP.below BEL
    have PS := PS.below BEL
    have BX := BX.below BEL
    obtain ⟨y0, hy0⟩ : ∃ y0, y0 = World.drew W3 := ⟨_, rfl⟩
    rw [← hy0] at BEL KP PS BX ⊢
    (try rw [← hy0] at hHeld)
    clear hy0
    refine' wpAnyH_take (i := 0) (oi := ?oiz9) (v := ?vz9) ?haz9 (by kernel_rfl) ?hfz9 ?hrz9 ?hQz9 (Or.inl ⟨?hwz9, ?hyz9⟩) (by assumption) ?restz9
    case haz9 => (simp only [List.getElem?_toArray, List.getElem?_cons_zero]; exact rfl)
    case hQz9 => exact fun _ _ _ h => h
    case hfz9 => kernel_rfl
    case hrz9 => kernel_rfl
    case hwz9 => rfl
    case hyz9 => (intro w hSw; (try dsimp only at hSw); obtain ⟨e1, e2⟩ := hSw; go_simp; (try with_reducible rfl))
    try simp only [Act.put, List.setIfInBounds_toArray, List.set_cons_zero, List.set_cons_succ]
    refine' wpAnyH_take (i := 1) (oi := ?oiz10) (v := ?vz10) ?haz10 (by kernel_rfl) ?hfz10 ?hrz10 ?hQz10 (Or.inl ⟨?hwz10, ?hyz10⟩) (by assumption) ?restz10
    case haz10 => (simp only [List.getElem?_toArray, List.getElem?_cons_succ, List.getElem?_cons_zero]; exact rfl)
    case hQz10 => exact fun _ _ _ h => h
    case hfz10 => kernel_rfl
    case hrz10 => kernel_rfl
    case hwz10 => rfl
    case hyz10 => (intro w hSw; (try dsimp only at hSw); obtain ⟨e1, e2⟩ := hSw; go_simp; (try with_reducible rfl))
    try simp only [Act.put, List.setIfInBounds_toArray, List.set_cons_zero, List.set_cons_succ]
    refine' wpAnyH_take (i := 2) (oi := ?oiz11) (v := ?vz11) ?haz11 (by kernel_rfl) ?hfz11 ?hrz11 ?hQz11 (Or.inl ⟨?hwz11, ?hyz11⟩) (by assumption) ?restz11
    case haz11 => (simp only [List.getElem?_toArray, List.getElem?_cons_succ, List.getElem?_cons_zero]; exact rfl)
    case hQz11 => exact fun _ _ _ h => h
    case hfz11 => kernel_rfl
    case hrz11 => kernel_rfl
    case hwz11 => rfl
    case hyz11 => (intro w hSw; (try dsimp only at hSw); obtain ⟨e1, e2⟩ := hSw; go_simp; (try with_reducible rfl))
    try simp only [Act.put, List.setIfInBounds_toArray, List.set_cons_zero, List.set_cons_succ]
    refine' wpAnyH_take (i := 3) (oi := ?oiz12) (v := ?vz12) ?haz12 (by kernel_rfl) ?hfz12 ?hrz12 ?hQz12 (Or.inl ⟨?hwz12, ?hyz12⟩) (by assumption) ?restz12
    case haz12 => (simp only [List.getElem?_toArray, List.getElem?_cons_succ, List.getElem?_cons_zero]; exact rfl)
    case hQz12 => exact fun _ _ _ h => h
    case hfz12 => kernel_rfl
    case hrz12 => kernel_rfl
    case hwz12 => rfl
    case hyz12 => (intro w hSw; (try dsimp only at hSw); obtain ⟨e1, e2⟩ := hSw; go_simp; (try with_reducible rfl))
    try simp only [Act.put, List.setIfInBounds_toArray, List.set_cons_zero, List.set_cons_succ]
    refine wpAnyH_ready (rs := [4]) (by kernel_rfl) (by simp) ?_
    refine' AllReadyH.cons (o := ?oiz16) ?haz16 (fun K hK => ?stepz16) AllReadyH.nil
    case haz16 => (simp only [List.getElem?_toArray, List.getElem?_cons_succ, List.getElem?_cons_zero]; exact rfl)
    go_simp
    go_at_call 71
    refine (term_calls _ _ y0 (by omega) (by omega)).mono ?_
    rintro e y1 ⟨t5, rfl, h5, sb⟩
    have s5 := h5.isSl
    have P5 := h5.ints
    clear h5
    replace KP := KP.below sb
    replace PS := PS.below sb
    replace BX := BX.below sb
    replace BEL := Below.chain BEL sb
    clear sb
    refine hK.out _ _ (⟨KP.cell0, KP.cell1⟩) (fun hHeld => ?_)
    clear hK K
    try simp only [Act.put, List.setIfInBounds_toArray, List.set_cons_zero, List.set_cons_succ]
    refine wpAnyH_ready (rs := [5]) (by kernel_rfl) (by simp) ?_
    refine' AllReadyH.cons (o := ?oiz15) ?haz15 (fun K hK => ?stepz15) AllReadyH.nil
    case haz15 => (simp only [List.getElem?_toArray, List.getElem?_cons_succ, List.getElem?_cons_zero]; exact rfl)
    go_simp
    go_at_call 70
    refine (ltimes_calls p _ (.slice s1 s2 s3) t5 y1 PS P5 FP.out.1.1 FT.out.1.1 FP.out.1.2 FT.out.1.2 (Nat.le_trans FPT.out (by omega))).mono ?_
    rintro e y2 ⟨v9, rfl, h9, sb⟩
    rw [HNM.out] at h9 ⊢
    have T9 := h9.low (B' := W3.heap.size) BEL.size
    have s9 := T9.isSl
    obtain ⟨x1, x2, x3, rfl, -⟩ := s9.cases
    clear h9
    clear P5
    replace KP := KP.below sb
    replace PS := PS.below sb
    replace BX := BX.below sb
    replace BEL := Below.chain BEL sb
    clear sb
    refine hK.out _ _ (⟨KP.cell0, KP.cell1⟩) (fun hHeld => ?_)
    clear hK K
    try simp only [Act.put, List.setIfInBounds_toArray, List.set_cons_zero, List.set_cons_succ]
    refine wpAnyH_ready (rs := [6]) (by kernel_rfl) (by simp) ?_
    refine' AllReadyH.cons (o := ?oiz14) ?haz14 (fun K hK => ?stepz14) AllReadyH.nil
    case haz14 => (simp only [List.getElem?_toArray, List.getElem?_cons_succ, List.getElem?_cons_zero]; exact rfl)
    have f0 := BX.free0; have f1 := BX.free1; have b0 := BX.cell0; have b1 := BX.cell1
    go_simp

    clear f0 f1 b0 b1
    have KP9 := (KP.other (C := w.heap.size) hne 0 (.int .i64 nm.low)).other (C := w.heap.size) hne 1 (.slice x1 x2 x3)
    refine hK.out _ _ (⟨KP9.cell0, KP9.cell1⟩) (fun hHeld => ?_)
    clear hK K
    try simp only [Act.put, List.setIfInBounds_toArray, List.set_cons_zero, List.set_cons_succ]
    refine' wpAnyH_take (i := 7) (oi := ?oiz13) (v := ?vz13) ?haz13 (by kernel_rfl) ?hfz13 ?hrz13 ?hQz13 (Or.inl ⟨?hwz13, ?hyz13⟩) (by assumption) ?restz13
    case haz13 => (simp only [List.getElem?_toArray, List.getElem?_cons_succ, List.getElem?_cons_zero]; exact rfl)
    case hQz13 => exact fun _ _ _ h => h
    case hfz13 => kernel_rfl
    case hrz13 => kernel_rfl
    case hwz13 => rfl
    case hyz13 => (intro w hSw; (try dsimp only at hSw); obtain ⟨e1, e2⟩ := hSw; go_simp; (try with_reducible rfl))
    try simp only [Act.put, List.setIfInBounds_toArray, List.set_cons_zero, List.set_cons_succ]
    refine wpAnyH_done (by kernel_rfl) ?_ _
    have Q9 := BX.set (.int .i64 nm.low) (.slice x1 x2 x3)
    have q0 := Q9.cell0; have q1 := Q9.cell1; have hq := BX.lt
    go_wp2_with fail
    have hne7 : ∀ b, Go.Sl.row (.slice x1 x2 x3) = some b → w.heap.size ≠ b := fun b hb e => by have := (T9.lt b hb).1; omega
    refine bodyPost_ret (v := .tuple #[.agg #[.int .i64 nm.low, .slice x1 x2 x3], .int .i64 0]) (by simp [results, Try.results26, go_sem, q0, q1]) rfl ⟨nm, _, rfl, ?_, HRES.out.1, HRES.out.2.1, HRES.out.2.2.1, HRES.out.2.2.2, ?_⟩
    · exact (((T9.low (by omega)).setOther (fun b hb => hne7 b hb) _).setOther (fun b hb => hne7 b hb) _)
    · exact ((BW.out.trans (BEL.mono BW.out.size)).setCell (p := ⟨w.heap.size, 0, none⟩) (by simp) _).setCell (p := ⟨w.heap.size, 1, none⟩) (by simp) _
end Go.Proofs.Ytplekfgadbjgdaa


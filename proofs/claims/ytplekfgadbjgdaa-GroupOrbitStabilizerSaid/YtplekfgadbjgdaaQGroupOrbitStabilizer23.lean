/- permgroup.Orbits and StabilizerOrder walked. -/
import Derived.Test.YtplekfgadbjgdaaQGroupOrbitStabilizer0
import Derived.Test.YtplekfgadbjgdaaQGroupOrbitStabilizer1
import Derived.Test.YtplekfgadbjgdaaQGroupOrbitStabilizer2
import Derived.Test.YtplekfgadbjgdaaQGroupOrbitStabilizer3
import Derived.Test.YtplekfgadbjgdaaQGroupOrbitStabilizer4
import Derived.Test.YtplekfgadbjgdaaQGroupOrbitStabilizer5
import Derived.Test.YtplekfgadbjgdaaQGroupOrbitStabilizer6
import Derived.Test.YtplekfgadbjgdaaQGroupOrbitStabilizer7
import Derived.Test.YtplekfgadbjgdaaQGroupOrbitStabilizer8
import Derived.Test.YtplekfgadbjgdaaQGroupOrbitStabilizer9
import Derived.Test.YtplekfgadbjgdaaQGroupOrbitStabilizer10
import Derived.Test.YtplekfgadbjgdaaQGroupOrbitStabilizer11
import Derived.Test.YtplekfgadbjgdaaQGroupOrbitStabilizer12
import Derived.Test.YtplekfgadbjgdaaQGroupOrbitStabilizer13
import Derived.Test.YtplekfgadbjgdaaQGroupOrbitStabilizer14
import Derived.Test.YtplekfgadbjgdaaQGroupOrbitStabilizer15
import Derived.Test.YtplekfgadbjgdaaQGroupOrbitStabilizer16
import Derived.Test.YtplekfgadbjgdaaQGroupOrbitStabilizer17
import Derived.Test.YtplekfgadbjgdaaQGroupOrbitStabilizer18
import Derived.Test.YtplekfgadbjgdaaQGroupOrbitStabilizer19
import Derived.Test.YtplekfgadbjgdaaQGroupOrbitStabilizer20
import Derived.Test.YtplekfgadbjgdaaQGroupOrbitStabilizer21
import Derived.Test.YtplekfgadbjgdaaQGroupOrbitStabilizer22

namespace Go.Proofs.Ytplekfgadbjgdaa
open Go.RowKit Go.Sl

set_option maxHeartbeats 4000000 in
set_option maxRecDepth 100000 in
theorem orbitsX_calls (n : Nat) (gv : Value) (gvs : List Value) (S : List (List Int)) (w : World) (hr : RowsV w gv gvs S) (hS : ∀ g ∈ S, Pm n g) (hn : n ≤ 9) (hl : S.length ≤ 6) :
    Calls Try.prog 41 #[.int .i64 n, gv] w fun e w' => ∃ v vs out, e = .returned (.tuple #[v, .int .i64 0]) ∧ RO w' w.heap.size v vs out ∧ AllOrbs n S out ∧ out.length ≤ n ∧ Below w.heap.size w w' := by
  have sgv := hr.isSl
  have HR := Lib.hid hr; have HS := Lib.hid hS
  clear hr hS
  go_enter Try.func41, Try.ntmps41
  go_wp2_with fail
  refine (gcheck_calls n gv gvs S _ HR.out HS.out hn hl).mono ?_
  rintro e w1 ⟨rfl, hb⟩
  have HB := Lib.hid hb
  clear hb
  go_wp2_with fail
  refine (orbits_calls n gv gvs S _ (HR.out.below HB.out) HS.out hn hl).mono ?_
  rintro e w2 ⟨v, vs, out, rfl, ho, ha, hol, hb⟩
  have sv := ho.rows.isSl
  have HO := Lib.hid (ho.low HB.out.size); have HA := Lib.hid ha
  replace HB := Lib.hid (Below.chain HB.out hb)
  clear ho ha hb
  go_wp2_with fail
  refine (clipRows_calls v vs out _ _ HO.out).mono ?_
  rintro e w3 ⟨rfl, v', rfl, ho⟩
  have sv' := ho.rows.isSl
  have HO2 := Lib.hid ho
  clear ho
  go_wp2_with fail
  go_ret2
  exact ⟨_, _, _, rfl, HO2.out, HA.out, hol, HB.out⟩

theorem idx_of {n : Nat} {S : List (List Int)} {out : List (List Int)} {p : Nat} (h : AllOrbs n S out) (hp : p < n) : ∃ m, m < out.length ∧ (p : Int) ∈ nthr out m ∧ ∀ j, j < m → ¬ (p : Int) ∈ nthr out j := by
  rcases first_row (p : Int) out with h1 | h1
  · exfalso
    obtain ⟨o, ho, hpo⟩ := h.all p hp
    obtain ⟨j, hj, rfl⟩ := List.getElem_of_mem ho
    exact h1 j hj (by rw [nthr_lt hj]; exact hpo)
  · exact h1

set_option maxHeartbeats 4000000 in
set_option maxRecDepth 100000 in
theorem stab_calls (n : Nat) (gv : Value) (gvs : List Value) (S : List (List Int)) (p m : Nat) (w : World) (hr : RowsV w gv gvs S) (hS : ∀ g ∈ S, Pm n g) (hn : n ≤ 9) (hl : S.length ≤ 6) (hp : p < n) (hm : HasCard (Gen n S) m) :
    Calls Try.prog 42 #[.int .i64 n, gv, .int .i64 p] w fun e w' => ∃ (k : Nat) (o : List Int), e = .returned (.tuple #[.int .i64 k, .int .i64 0]) ∧ IsOrb n S o ∧ (p : Int) ∈ o ∧ m = k * o.length ∧ m ≤ 387420489 ∧ Below w.heap.size w w' := by
  have sgv := hr.isSl
  obtain ⟨W1, hW1⟩ : ∃ W, W = w.alloc (.cells #[.int .i64 p] 3) := ⟨_, rfl⟩
  have cn := (show CelO W1 w.heap.size (.int .i64 p) 3 by rw [hW1]; exact heap_alloc_new _ _)
  have b1 : Below w.heap.size w W1 := by rw [hW1]; exact (Below.refl _ _).alloc (Nat.le_refl _) _
  have hW1' := hW1.symm
  have HR := Lib.hid (hr.below b1); have HS := Lib.hid hS; have HM := Lib.hid hm; have HC := Lib.hid cn; have HB := Lib.hid b1
  clear hr hS hm cn b1 hW1
  go_enter Try.func42, Try.ntmps42
  go_wp2_with fail
  clear hW1'
  refine (gorder_calls n gv gvs S _ HR.out HS.out hn hl).mono ?_
  rintro e w1 ⟨k, rfl, hk, hkb, hb⟩
  obtain rfl := hk.uniq HM.out
  replace HR := Lib.hid (HR.out.below hb); replace HC := Lib.hid (HC.out.below hb); replace HB := Lib.hid (Below.chain HB.out hb)
  clear hb hk
  have kc := HC.out.cell
  go_wp2_with fail
  refine (orbits_calls n gv gvs S _ HR.out HS.out hn hl).mono ?_
  rintro e w2 ⟨v, vs, out, rfl, ho, ha, hol, hb⟩
  have sv := ho.rows.isSl
  have lv := ho.rows.len
  replace HC := Lib.hid (HC.out.below hb); replace HB := Lib.hid (Below.chain HB.out hb)
  obtain ⟨q, hq, hpq, hno⟩ := idx_of ha hp
  have horb := ha.orbs.each _ (nthr_mem hq)
  obtain ⟨s, hs⟩ := orb_stab (by omega) HS.out horb HM.out
  have hpos := horb.pos
  have c1 := ho.rows.cell hq
  have rr := (ho.rows.row hq)
  obtain ⟨r, hr⟩ : ∃ r, nthv vs q = r := ⟨_, rfl⟩
  rw [hr] at c1 rr
  have sr := rr.isSl
  have lr := rr.len
  have hk : ∀ args w, (callFunc 90 args).run Try.prog w = .ok (.enter 90 args) w := fun args w => (Go.Proofs.enters_of Try.func90 (by kernel_rfl) rfl) args w
  have HF := Lib.hid (idxRows_some v vs out _ #[.pointer (some ⟨w.heap.size, 0, none⟩)] hk q w2 ho.rows hq (fun j hj => (inRowS_calls _ _ (p : Int) w.heap.size w2 (ho.rows.row (by omega)) HC.out).mono fun e w' ⟨h1, h2⟩ => ⟨by rw [h1, decide_eq_false (hno j hj)], h2⟩) ((inRowS_calls _ _ (p : Int) w.heap.size w2 (ho.rows.row hq) HC.out).mono fun e w' ⟨h1, h2⟩ => ⟨by rw [h1, decide_eq_true hpq], h2⟩))
  obtain ⟨o, hoe⟩ : ∃ o, nthr out q = o := ⟨_, rfl⟩
  rw [hoe] at lr hpos horb hpq hs
  obtain ⟨L, hL⟩ : ∃ L, o.length = L := ⟨_, rfl⟩
  rw [hL] at lr hpos hs
  obtain ⟨O, hO⟩ : ∃ O, out.length = O := ⟨_, rfl⟩
  rw [hO] at lv hq hol
  have hL9 : L ≤ 9 := by have := horb.len_le; omega
  have hquo : (k : Int).tdiv (L : Int) = (s : Int) := by
    rw [hs, Int.natCast_mul]
    exact Int.mul_tdiv_cancel _ (by omega)
  have hdiv : (k : Int) / (L : Int) = (s : Int) := by
    rw [hs, Int.natCast_mul]
    exact Int.mul_ediv_cancel _ (by omega)
  have hne : ((L : Int) == 0) = false := by rw [beq_eq_false_iff_ne]; omega
  have hsk : s ≤ k := by rw [hs]; exact Nat.le_mul_of_pos_right _ hpos
  have hw1 : IntKind.i64.wrap (s : Int) = (s : Int) := IntWalk.i64_in _ ⟨by omega, by omega⟩
  have HORB := Lib.hid horb; have HPQ := Lib.hid hpq; have HSX := Lib.hid hs; have HL := Lib.hid hL
  clear ho ha hno horb hpq rr hr hoe hL hO hs hk kc hb
  have kc := HC.out.cell
  go_wp2_with fail
  refine HF.out.mono ?_
  rintro e w' ⟨rfl, rfl⟩
  go_wp2_with fail
  go_ret2
  exact ⟨s, o, rfl, HORB.out, HPQ.out, by rw [HL.out]; exact HSX.out, hkb, HB.out⟩
end Go.Proofs.Ytplekfgadbjgdaa


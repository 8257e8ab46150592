/- topsums: what the polynomials of both words say of the joined ones. Plain law. -/
import Derived.Test.YtplekfgadbjgdaaQTopSums0
import Derived.Test.YtplekfgadbjgdaaQTopSums1
import Derived.Test.YtplekfgadbjgdaaQTopSums2
import Derived.Test.YtplekfgadbjgdaaQTopSums3
import Derived.Test.YtplekfgadbjgdaaQTopSums4
import Derived.Test.YtplekfgadbjgdaaQTopSums5
import Derived.Test.YtplekfgadbjgdaaQTopSums6
import Derived.Test.YtplekfgadbjgdaaQTopSums7
import Derived.Test.YtplekfgadbjgdaaQTopSums8
import Derived.Test.YtplekfgadbjgdaaQTopSums9
import Derived.Test.YtplekfgadbjgdaaQTopSums10
import Derived.Test.YtplekfgadbjgdaaQTopSums11
import Derived.Test.YtplekfgadbjgdaaQTopSums12
import Derived.Test.YtplekfgadbjgdaaQTopSums13
import Derived.Test.YtplekfgadbjgdaaQTopSums14
import Derived.Test.YtplekfgadbjgdaaQTopSums15
import Derived.Test.YtplekfgadbjgdaaQTopSums16
import Derived.Test.YtplekfgadbjgdaaQTopSums17
import Derived.Test.YtplekfgadbjgdaaQTopSums18
import Derived.Test.YtplekfgadbjgdaaQTopSums19
import Derived.Test.YtplekfgadbjgdaaQTopSums20
import Derived.Test.YtplekfgadbjgdaaQTopSums21
import Derived.Test.YtplekfgadbjgdaaQTopSums22
import Derived.Test.YtplekfgadbjgdaaQTopSums23
import Derived.Test.YtplekfgadbjgdaaQTopSums24
import Derived.Test.YtplekfgadbjgdaaQTopSums25
import Derived.Test.YtplekfgadbjgdaaQTopSums26
import Derived.Test.YtplekfgadbjgdaaQTopSums27
import Derived.Test.YtplekfgadbjgdaaQTopSums28
import Derived.Test.YtplekfgadbjgdaaQTopSums29
import Derived.Test.YtplekfgadbjgdaaQTopSums30
import Derived.Test.YtplekfgadbjgdaaQTopSums31
import Derived.Test.YtplekfgadbjgdaaQTopSums32
import Derived.Test.YtplekfgadbjgdaaQTopSums33
import Derived.Test.YtplekfgadbjgdaaQTopSums34
import Derived.Test.YtplekfgadbjgdaaQTopSums35
import Derived.Test.YtplekfgadbjgdaaQTopSums36
import Derived.Test.YtplekfgadbjgdaaQTopSums37
import Derived.Test.YtplekfgadbjgdaaQTopSums38
import Derived.Test.YtplekfgadbjgdaaQTopSums39
import Derived.Test.YtplekfgadbjgdaaQTopSums40
import Derived.Test.YtplekfgadbjgdaaQTopSums42
import Derived.Test.YtplekfgadbjgdaaQTopSums43
import Derived.Test.YtplekfgadbjgdaaQTopSums44
import Derived.Test.YtplekfgadbjgdaaQTopSums45
import Derived.Test.YtplekfgadbjgdaaQTopSums46
import Derived.Test.YtplekfgadbjgdaaQTopSums47
import Derived.Test.YtplekfgadbjgdaaQTopSums48
import Derived.Test.YtplekfgadbjgdaaQTopSums49
import Derived.Test.YtplekfgadbjgdaaQTopSums50
import Derived.Shelf.Strings.Builder1
import Derived.Deep.RegionWith
import Derived.RangeFuncNested
import Derived.RangeFuncCalls
import Derived.OrdersIn
import Derived.OrdersHeld
import Derived.Deep.RegionHeld
import Derived.RangeFuncBound
import Derived.RangeFuncLeaves
import Derived.RangeFuncBox
import Derived.Shelf.Abstract
import Derived.Shelf.RegionOpen
import Derived.OwnWalkIn
import Derived.TacticsInMore
import Derived.LoopNIn
import Derived.LoopIn
import Derived.Maps.AppendAt
import Derived.Deep.RegionLaw
namespace Go.Proofs.Ytplekfgadbjgdaa
open Go.TL

/-- All tables for p + 1 and q + 1 strands. -/
structure SumTabs (p q N1 N2 N3 N4 : Nat) (S1 S2 S3 S4 : List (List Nat)) (P1 P2 P3 P4 : List Nat) (T1 T2 T3 T4 : Nat) (c3 c4 : Nat → Nat → Nat) : Prop where
  h1 : MJ (p + 1) N1 S1 P1 T1
  h2 : MJ (q + 1) N2 S2 P2 T2
  h3 : MJ (p + q + 1) N3 S3 P3 T3
  h4 : MJ (p + 1 + q + 1) N4 S4 P4 T4
  b3 : Beside (p + 1) (q + 1) p 0 N1 N2 N3 P1 P2 P3 T1 T2 T3 c3
  b4 : Beside (p + 1) (q + 1) (p + 1) 1 N1 N2 N4 P1 P2 P4 T1 T2 T4 c4
theorem sumTabs (p q : Nat) (p1 : 1 ≤ p) (p2 : p ≤ 2) (q1 : 1 ≤ q) (q2 : q ≤ 2) : ∃ N1 N2 N3 N4 S1 S2 S3 S4 P1 P2 P3 P4 T1 T2 T3 T4 c3 c4, SumTabs p q N1 N2 N3 N4 S1 S2 S3 S4 P1 P2 P3 P4 T1 T2 T3 T4 c3 c4 := by
  obtain rfl | rfl : p = 1 ∨ p = 2 := by omega
  · obtain rfl | rfl : q = 1 ∨ q = 2 := by omega
    · exact ⟨_, _, _, _, _, _, _, _, _, _, _, _, _, _, _, _, _, _, mj2, mj2, mj3, mj4, beside_s22, beside_a22⟩
    · exact ⟨_, _, _, _, _, _, _, _, _, _, _, _, _, _, _, _, _, _, mj2, mj3, mj4, mj5, beside_s23, beside_a23⟩
  · obtain rfl | rfl : q = 1 ∨ q = 2 := by omega
    · exact ⟨_, _, _, _, _, _, _, _, _, _, _, _, _, _, _, _, _, _, mj3, mj2, mj4, mj5, beside_s32, beside_a32⟩
    · exact ⟨_, _, _, _, _, _, _, _, _, _, _, _, _, _, _, _, _, _, mj3, mj3, mj5, mj6, beside_s33, beside_a33⟩
theorem pok_jones {p : LP} {L : Nat} (hl : L ≤ 12) (ht : Trimmed p) (hw : Within p (-(6 * (L : Int) + 10)) (6 * (L : Int) + 11)) (hn : n1 p.c ≤ 3 ^ L * 32) : POk p := by
  have b : 3 ^ L ≤ 531441 := Nat.le_trans (Nat.pow_le_pow_right (by decide) hl) (by decide)
  exact POk.of ht hw (by omega) (by omega) (by omega) (by omega) (Nat.le_trans hn (by omega))
section
variable {p q N1 N2 N3 N4 : Nat} {S1 S2 S3 S4 : List (List Nat)} {P1 P2 P3 P4 : List Nat} {T1 T2 T3 T4 : Nat} {c3 c4 : Nat → Nat → Nat} {X Y : List Int} {A B R : LP}
theorem SumTabs.pos (H : SumTabs p q N1 N2 N3 N4 S1 S2 S3 S4 P1 P2 P3 P4 T1 T2 T3 T4 c3 c4) : 0 < N1 ∧ 0 < N2 := by
  have := H.h1.gN; have := H.h2.gN; omega
theorem SumTabs.sum (H : SumTabs p q N1 N2 N3 N4 S1 S2 S3 S4 P1 P2 P3 P4 T1 T2 T3 T4 c3 c4) (hx : NWord (p + 1) X) (hy : NWord (q + 1) Y) (hr : Trimmed R)
    (va : ∀ t : Rat, t ≠ 0 → ev A t = jonesV P1 N1 T1 t X) (vb : ∀ t : Rat, t ≠ 0 → ev B t = jonesV P2 N2 T2 t Y) (vr : ∀ t : Rat, t ≠ 0 → ev R t = jonesV P3 N3 T3 t (X ++ shW p Y)) : R = pmul A B :=
  ev_ext hr (pmul_trimmed _ _) fun t ht => by
    rw [vr t ht, ev_pmul _ _ ht, va t ht, vb t ht, jones_sum ht H.b3 (by omega) (by omega) H.pos.1 H.pos.2 hx hy, Rat.pow_zero, Rat.mul_one]
theorem SumTabs.apart (H : SumTabs p q N1 N2 N3 N4 S1 S2 S3 S4 P1 P2 P3 P4 T1 T2 T3 T4 c3 c4) (hx : NWord (p + 1) X) (hy : NWord (q + 1) Y) (hr : Trimmed R)
    (va : ∀ t : Rat, t ≠ 0 → ev A t = jonesV P1 N1 T1 t X) (vb : ∀ t : Rat, t ≠ 0 → ev B t = jonesV P2 N2 T2 t Y) (vr : ∀ t : Rat, t ≠ 0 → ev R t = jonesV P4 N4 T4 t (X ++ shW (p + 1) Y)) : R = pmul (pmul A B) ⟨-2, [-1, 0, 0, 0, -1]⟩ :=
  ev_ext hr (pmul_trimmed _ _) fun t ht => by
    rw [vr t ht, ev_pmul _ _ ht, ev_pmul _ _ ht, va t ht, vb t ht, jones_sum ht H.b4 (by omega) (by omega) H.pos.1 H.pos.2 hx hy]
    have : ev ⟨-2, [-1, 0, 0, 0, -1]⟩ t = dl t := by rw [← ev_loopP ht]; rfl
    rw [this, Rat.pow_one]
end
theorem pok_two : POk ⟨-2, [-1, 0, 0, 0, -1]⟩ := POk.of (lo := -2) (hi := 3) (tr_lit (by decide) (by decide) (by decide)) (.inr ⟨by decide, by decide⟩) (by omega) (by omega) (by omega) (by omega) (by decide)

end Go.Proofs.Ytplekfgadbjgdaa


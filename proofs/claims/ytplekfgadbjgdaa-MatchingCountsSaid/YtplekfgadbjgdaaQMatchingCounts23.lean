/- temperleylieb: graph.loops and newGraph, walked. -/
import Derived.Test.YtplekfgadbjgdaaQMatchingCounts0
import Derived.Test.YtplekfgadbjgdaaQMatchingCounts1
import Derived.Test.YtplekfgadbjgdaaQMatchingCounts10
import Derived.Test.YtplekfgadbjgdaaQMatchingCounts11
import Derived.Test.YtplekfgadbjgdaaQMatchingCounts12
import Derived.Test.YtplekfgadbjgdaaQMatchingCounts13
import Derived.Test.YtplekfgadbjgdaaQMatchingCounts14
import Derived.Test.YtplekfgadbjgdaaQMatchingCounts15
import Derived.Test.YtplekfgadbjgdaaQMatchingCounts16
import Derived.Test.YtplekfgadbjgdaaQMatchingCounts17
import Derived.Test.YtplekfgadbjgdaaQMatchingCounts18
import Derived.Test.YtplekfgadbjgdaaQMatchingCounts19
import Derived.Test.YtplekfgadbjgdaaQMatchingCounts20
import Derived.Test.YtplekfgadbjgdaaQMatchingCounts21
import Derived.Test.YtplekfgadbjgdaaQMatchingCounts22
import Derived.Deep.RegionLaw
import Derived.RangeFuncNested
import Derived.RangeFuncBound
import Derived.RangeFuncCalls
import Derived.RangeFuncLeaves
import Derived.RangeFuncBox
import Derived.Shelf.Abstract
import Derived.Shelf.RegionOpen
import Derived.OwnWalkIn
import Derived.TacticsInMore
import Derived.LoopNIn
import Derived.LoopIn
import Derived.Maps.AppendAt
namespace Go.Proofs.Ytplekfgadbjgdaa
open Go.RowKit Go.Sl
open Go.TL (lnAt addLn tlWalk tlLoops find)

theorem tlWalk_keeps : ∀ (f : Nat) (L : List (List Nat)) (p q : Nat) (L' : List (List Nat)), tlWalk f L p = some (q, L') → p < L.length → L'.length = L.length ∧ q < L.length ∧ ∀ i, (lnAt L' i).length ≤ (lnAt L i).length := by
  intro f
  induction f with
  | zero =>
    intro L p q L' h hp
    cases hr : lnAt L p with
    | nil =>
      rw [tlWalk_nil hr] at h
      have := Option.some.inj h
      injection this with h1 h2
      subst h1 h2
      exact ⟨rfl, hp, fun i => Nat.le_refl _⟩
    | cons x rest => simp [tlWalk, hr] at h
  | succ f ih =>
    intro L p q L' h hp
    cases hr : lnAt L p with
    | nil =>
      rw [tlWalk_nil hr] at h
      have := Option.some.inj h
      injection this with h1 h2
      subst h1 h2
      exact ⟨rfl, hp, fun i => Nat.le_refl _⟩
    | cons x rest =>
      obtain ⟨f', i, hf, hx, _, hw⟩ := tlWalk_cons hr h
      obtain rfl : f = f' := by omega
      obtain ⟨h1, h2, h3⟩ := ih _ _ _ _ hw (by simpa using hx)
      simp only [List.length_set] at h1 h2
      refine ⟨h1, h2, fun j => Nat.le_trans (h3 j) ?_⟩
      rcases Nat.lt_or_ge j L.length with hj | hj
      · rw [lnAt_set (by simpa using hj)]
        have key : (lnAt (L.set p rest) j).length ≤ (lnAt L j).length := by
          rw [lnAt_set hj]
          split
          · rename_i e; rw [e, hr]; simp
          · exact Nat.le_refl _
        split
        · rename_i e
          rw [e] at key
          rw [e, List.length_eraseIdx]
          split
          · omega
          · exact key
        · exact key
      · have : ∀ M : List (List Nat), M.length = L.length → lnAt M j = [] := fun M hM => by unfold lnAt; rw [List.getD_eq_getElem?_getD, List.getElem?_eq_none (by omega)]; rfl
        rw [this _ (by simp)]; simp
theorem lnAt_ge {L : List (List Nat)} {j : Nat} (h : L.length ≤ j) : lnAt L j = [] := by unfold lnAt; rw [List.getD_eq_getElem?_getD, List.getElem?_eq_none h]; rfl

set_option maxRecDepth 100000 in
set_option maxHeartbeats 4000000 in
theorem loops_calls (B C0 g N C : Nat) (mv : Value) (vs0 : List Value) (L0 : List (List Nat)) (w : World) (h : GW w B g mv vs0 L0) (hN : L0.length = N) (hN9 : N ≤ 100) (hw : tlLoops N L0 0 0 = some C) (hL : ∀ i, (lnAt L0 i).length ≤ 2) (hlow : LowG C0 g mv vs0) :
    Calls Try.prog 138 #[.pointer (some ⟨g, 0, none⟩)] w fun e w' => e = .returned (.int .i64 (C : Nat)) ∧ Below B w w' ∧ KeepC C0 w w' := by
  have smv := h.own.1
  have c0 := h.c0
  have lmv := h.vlen
  rw [hN] at lmv
  have H0 := Lib.hid (show ∃ (L : List (List Nat)) (vs : List Value), L.length = N ∧ tlLoops (N - 0) L 0 0 = some C ∧ GW w B g mv vs L ∧ Below B w w ∧ (∀ i, (lnAt L i).length ≤ 2) ∧ LowG C0 g mv vs from ⟨L0, vs0, hN, hw, h, Below.refl _ _, hL, hlow⟩)
  clear h hN hw hL hlow
  go_enter Try.func138, Try.ntmps138
  go_wp2_with fail
  clear c0
  go_loopw [3, 10] (fun o i wr => ∃ (p c : Nat) (L : List (List Nat)) (vs : List Value), p ≤ N ∧ i = .int .i64 p ∧ o = .int .i64 c ∧ c ≤ p ∧ L.length = N ∧ tlLoops (N - p) L p c = some C ∧ GW wr B g mv vs L ∧ Below B w wr ∧ (∀ i, (lnAt L i).length ≤ 2) ∧ LowG C0 g mv vs ∧ KeepC C0 w wr) (fun _ i _ => N - (intOf i).toNat)
  case atStart =>
    obtain ⟨L, vs, h1, h2, h3, h4, h5, h6⟩ := H0.out
    exact ⟨0, 0, L, vs, Nat.zero_le _, rfl, rfl, Nat.le_refl _, h1, h2, h3, h4, h5, h6, KeepC.refl _ _⟩
  case round =>
    rename World => W
    obtain ⟨p, c, L, vs, hp, rfl, rfl, hcp, hLN, hlp, hg, hb, hL, hlo, hkp⟩ := hrel
    by_cases hlt : p < N
    · have hpL : p < L.length := by omega
      have c0 := hg.c0
      have cp := hg.cell hpL
      have rp := hg.row p hpL
      obtain ⟨r, hr⟩ : ∃ r, nthv vs p = r := ⟨_, rfl⟩
      rw [hr] at cp rp
      have sr := rp.isSl
      have lr := rp.len
      rw [iz_length] at lr
      obtain ⟨k, hk⟩ : ∃ k, N - p = k + 1 := ⟨N - p - 1, by omega⟩
      have hk2 : k = N - (p + 1) := by omega
      rw [hk] at hlp
      cases hrow : lnAt L p with
      | nil =>
        rw [hrow] at lr
        replace lr : vlen r = 0 := lr
        rw [tlLoops, hrow] at hlp
        simp only at hlp
        rw [hk2] at hlp
        have HG := Lib.hid hg; have HB := Lib.hid hb; have HLL := Lib.hid hL; have HLP := Lib.hid hlp; have HLO := Lib.hid hlo; have HKP := Lib.hid hkp
        clear hlo hkp hg hb hL hlp rp hrow hr hk hk2
        go_wp2_with fail
        go_roundw
        case rel => exact ⟨p + 1, c, L, vs, by omega, by go_num, rfl, by omega, hLN, HLP.out, HG.out, HB.out, HLL.out, HLO.out, HKP.out⟩
        case measure => simp [intOf]; omega
      | cons x rest =>
        rw [tlLoops, hrow] at hlp
        simp only at hlp
        cases hwk : tlWalk 40 L p with
        | none => rw [hwk] at hlp; simp at hlp
        | some R =>
          rw [hwk] at hlp
          obtain ⟨q, L'⟩ := R
          simp only at hlp
          rw [hk2] at hlp
          obtain ⟨k1, k2, k3⟩ := tlWalk_keeps _ _ _ _ _ hwk hpL
          have hL'N : L'.length = N := by omega
          have hL'2 : ∀ i, (lnAt L' i).length ≤ 2 := fun i => Nat.le_trans (k3 i) (hL i)
          have HCALL := Lib.hid (fun V (hV : Below W.heap.size W V) => walk_calls p 40 B C0 g N mv vs L (q, L') V (hg.below hV) hlt hLN hN9 hwk hL hlo)
          obtain ⟨ln, hln⟩ : ∃ ln, rest.length = ln := ⟨_, rfl⟩
          rw [hrow] at lr
          replace lr : vlen r = ln + 1 := by rw [← hln]; exact lr
          have hww : IntKind.i64.wrap ((c : Int) + 1) = (c : Int) + 1 := IntWalk.i64_in _ ⟨by omega, by omega⟩
          have HB := Lib.hid hb; have HLP := Lib.hid hlp; have HL2 := Lib.hid hL'2; have HKP := Lib.hid hkp
          clear hlo hkp hg hb hL hlp rp hrow hr hk hk2 hwk k1 k2 k3 hL'2 hln
          go_wp2_with fail
          refine (HCALL.out _ (Below.refl _ _)).mono ?_
          rintro e V ⟨rfl, ⟨vs', hg', hlo'⟩, hb', hkp'⟩
          have HG' := Lib.hid hg'; have HB' := Lib.hid (HB.out.trans hb'); have HLO' := Lib.hid hlo'; have HKP' := Lib.hid (HKP.out.trans hkp')
          clear hg' hb' c0 cp HCALL hlo' hkp'
          go_wp2_with fail
          go_roundw
          case rel => exact ⟨p + 1, c + 1, L', vs', by omega, by go_num, by go_num, by omega, hL'N, HLP.out, HG'.out, HB'.out, HL2.out, HLO'.out, HKP'.out⟩
          case measure => simp [intOf]; omega
    · obtain rfl : p = N := by omega
      rw [Nat.sub_self] at hlp
      have hCc : c = C := by simpa [tlLoops] using hlp
      have HC := Lib.hid hCc; have HB := Lib.hid hb; have HKP := Lib.hid hkp
      clear hlp hCc hg hb hL hlo hkp
      go_wp2_with fail
      go_ret
      exact ⟨by rw [← HC.out]; rfl, HB.out, HKP.out⟩

end Go.Proofs.Ytplekfgadbjgdaa


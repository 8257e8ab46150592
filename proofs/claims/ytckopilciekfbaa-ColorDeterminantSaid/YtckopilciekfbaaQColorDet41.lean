/- alexandered walked: the statements' fact about Alexander polynomials; what a word of at most 16 letters gives. -/
import Derived.Test.YtckopilciekfbaaQColorDet0
import Derived.Test.YtckopilciekfbaaQColorDet1
import Derived.Test.YtckopilciekfbaaQColorDet2
import Derived.Test.YtckopilciekfbaaQColorDet3
import Derived.Test.YtckopilciekfbaaQColorDet4
import Derived.Test.YtckopilciekfbaaQColorDet5
import Derived.Test.YtckopilciekfbaaQColorDet6
import Derived.Test.YtckopilciekfbaaQColorDet7
import Derived.Test.YtckopilciekfbaaQColorDet8
import Derived.Test.YtckopilciekfbaaQColorDet10
import Derived.Test.YtckopilciekfbaaQColorDet11
import Derived.Test.YtckopilciekfbaaQColorDet12
import Derived.Test.YtckopilciekfbaaQColorDet13
import Derived.Test.YtckopilciekfbaaQColorDet14
import Derived.Test.YtckopilciekfbaaQColorDet15
import Derived.Test.YtckopilciekfbaaQColorDet16
import Derived.Test.YtckopilciekfbaaQColorDet17
import Derived.Test.YtckopilciekfbaaQColorDet20
import Derived.Test.YtckopilciekfbaaQColorDet21
import Derived.Test.YtckopilciekfbaaQColorDet22
import Derived.Test.YtckopilciekfbaaQColorDet23
import Derived.Test.YtckopilciekfbaaQColorDet24
import Derived.Test.YtckopilciekfbaaQColorDet25
import Derived.Test.YtckopilciekfbaaQColorDet27
import Derived.Test.YtckopilciekfbaaQColorDet29
import Derived.Test.YtckopilciekfbaaQColorDet37
import Derived.Test.YtckopilciekfbaaQColorDet38
import Derived.Test.YtckopilciekfbaaQColorDet39
import Derived.Test.YtckopilciekfbaaQColorDet40
import Derived.RangeFuncNested
import Derived.RangeFuncBound
import Derived.RangeFuncCalls
import Derived.RangeFuncLeaves
import Derived.RangeFuncBox
import Derived.Shelf.Abstract
import Derived.Shelf.RegionOpen
import Derived.OwnWalkIn
import Derived.TacticsInMore
import Derived.LoopNIn
import Derived.LoopIn
import Derived.Maps.AppendAt
namespace Go.Proofs.Ytckopilciekfbaa
open Go.RowKit Go.Sl

theorem pnorm_n1 (p : LP) : n1 (pnorm p).c ≤ n1 p.c := by
  have h1 := n1_pmul ⟨0, p.c⟩ (pterm (lsign p) 0)
  have h2 := n1_pterm (lsign p) 0
  have h3 : (lsign p).natAbs = 1 := by unfold lsign; split <;> rfl
  rw [h3] at h2
  have h4 := Nat.mul_le_mul_left (n1 p.c) h2
  unfold pnorm
  have h5 : n1 (⟨0, p.c⟩ : LP).c = n1 p.c := rfl
  rw [h5] at h1
  omega
/-- What alexander.Polynomial and alexander.Determinant give for a word of at most 16 letters. -/
structure AFit (n : Nat) (xs : List Int) : Prop where
  pf : ∀ i k, i < n → k < n → PFit (nthp (rowM n xs i) k) ∧ n1 (nthp (rowM n xs i) k).c ≤ 100000000000000
  fit : ExpFit (n - 1) (alexM n xs)
  ok : POk (expandL (n - 1) (alexM n xs))
  ok2 : POk (pnorm (expandL (n - 1) (alexM n xs)))
  at2 : (atR (-1) (pnorm (expandL (n - 1) (alexM n xs))).low (pnorm (expandL (n - 1) (alexM n xs))).c).natAbs ≤ 1000000000000
  at1 : (atR 1 (pnorm (expandL (n - 1) (alexM n xs))).low (pnorm (expandL (n - 1) (alexM n xs))).c).natAbs ≤ 1000000000000
  okc : POk (pconj (pnorm (expandL (n - 1) (alexM n xs))))
theorem afit {n : Nat} {xs : List Int} (hw : NWord n xs) (hl : xs.length ≤ 16) (h2 : 2 ≤ n) (h6 : n ≤ 6) : AFit n xs := by
  obtain ⟨f1, f2, f3, f4, f5⟩ := alex_fit hw hl h2 h6
  have g1 := pnorm_n1 (expandL (n - 1) (alexM n xs))
  have g2 := within_pnorm f5
  have g3 := within_pconj g2
  have g4 := n1_pconj (pnorm (expandL (n - 1) (alexM n xs)))
  exact ⟨f1, f2, f3, POk.of (pmul_trimmed _ _) g2 (by omega) (by omega) (by omega) (by omega) (by omega), Nat.le_trans (atR_le _ _ _) (by omega), Nat.le_trans (atR_le _ _ _) (by omega),
    POk.of (pconj_trimmed _) (g3.mono (lo' := -165) (hi' := 1) (by omega) (by omega)) (by omega) (by omega) (by omega) (by omega) (by omega)⟩
theorem alex_lit : pnorm (expandL (2 - 1) (alexM 2 [1, 1, 1])) = ⟨0, [1, -1, 1]⟩ := by decide +kernel

set_option maxRecDepth 100000 in
theorem alexandered_calls (w : World) :
    Calls Try.prog 21 #[] w fun e w' => e = .returned (.bool true) ∧ Below w.heap.size w w' := by
  have hbw : BWord ((2 : Nat) : Int) [1, 1, 1] := fun x hx => by simp at hx; subst hx; decide
  have HF := Lib.hid (afit hbw.nword (by decide) (by decide) (by decide))
  have HP := Lib.hid (fun W v hv => alex_calls 2 v [1, 1, 1] W hv (by decide) (by decide) hbw (by decide) HF.out.pf HF.out.fit HF.out.ok)
  have HD := Lib.hid (fun W v hv => adet_calls 2 v [1, 1, 1] W hv (by decide) (by decide) hbw (by decide) HF.out.pf HF.out.fit HF.out.ok HF.out.ok2 HF.out.at2)
  have h3 : ((atR (-1) (pnorm (expandL (2 - 1) (alexM 2 [1, 1, 1]))).low (pnorm (expandL (2 - 1) (alexM 2 [1, 1, 1]))).c).natAbs : Int) = 3 := by rw [alex_lit]; decide
  have H3 := Lib.hid h3
  clear hbw h3
  go_enter Try.func21, Try.ntmps21
  go_wp2_with fail
  refine (HP.out _ _ (ints_lit [1, 1, 1] (by simp) rfl rfl (by decide))).mono ?_
  rintro e w1 ⟨u, rfl, hu, hb⟩
  rw [alex_lit] at hu
  rw [alex_lit]
  have su := hu.isSl
  have HU := Lib.hid hu.ints; have HB := Lib.hid (Below.chain ((Below.refl _ _).alloc (Nat.le_refl _) _) hb)
  clear hu hb
  go_wp2_with fail
  refine (HD.out _ _ (ints_lit [1, 1, 1] (by simp) rfl rfl (by decide))).mono ?_
  rintro e w2 ⟨rfl, hb⟩
  rw [H3.out]
  have p0 := ((pair_new w1 35 (.int .i64 0) u).alloc _).below hb
  replace hb := Below.chain (Below.alloc (Below.refl w1.heap.size w1 |>.alloc (Nat.le_refl _) (.cells #[.int .i64 0, u] 35)) (by simp) _) hb
  have HB2 := Lib.hid (Below.chain HB.out hb)
  have HU2 := Lib.hid (HU.out.below hb)
  have c0 := p0.cell0; have c1 := p0.cell1
  clear hb
  go_wp2_with fail
  refine (same_yes ⟨0, [1, -1, 1]⟩ ⟨0, [1, -1, 1]⟩ _ _ _ (HU2.out.alloc _) (ints_lit [1, -1, 1] (by simp) rfl rfl (by decide)) rfl).mono ?_
  rintro e w3 ⟨rfl, hb⟩
  have HB3 := Lib.hid (Below.chain HB2.out (Below.chain ((Below.refl _ _).alloc (Nat.le_refl _) _) hb))
  clear hb
  go_wp2_with fail
  go_ret
  exact ⟨rfl, HB3.out⟩

end Go.Proofs.Ytckopilciekfbaa


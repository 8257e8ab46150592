/- AlexanderParity: for every input the statement returns true, and nothing that was there has changed. -/
import Derived.Test.YtckopilciekfbaaQAlexParity0
import Derived.Test.YtckopilciekfbaaQAlexParity1
import Derived.Test.YtckopilciekfbaaQAlexParity2
import Derived.Test.YtckopilciekfbaaQAlexParity3
import Derived.Test.YtckopilciekfbaaQAlexParity4
import Derived.Test.YtckopilciekfbaaQAlexParity5
import Derived.Test.YtckopilciekfbaaQAlexParity6
import Derived.Test.YtckopilciekfbaaQAlexParity7
import Derived.Test.YtckopilciekfbaaQAlexParity8
import Derived.Test.YtckopilciekfbaaQAlexParity9
import Derived.Test.YtckopilciekfbaaQAlexParity10
import Derived.Test.YtckopilciekfbaaQAlexParity11
import Derived.Test.YtckopilciekfbaaQAlexParity12
import Derived.Test.YtckopilciekfbaaQAlexParity13
import Derived.Test.YtckopilciekfbaaQAlexParity14
import Derived.Test.YtckopilciekfbaaQAlexParity15
import Derived.Test.YtckopilciekfbaaQAlexParity16
import Derived.Test.YtckopilciekfbaaQAlexParity17
import Derived.Test.YtckopilciekfbaaQAlexParity18
import Derived.Test.YtckopilciekfbaaQAlexParity19
import Derived.Test.YtckopilciekfbaaQAlexParity20
import Derived.Test.YtckopilciekfbaaQAlexParity21
import Derived.Test.YtckopilciekfbaaQAlexParity22
import Derived.Test.YtckopilciekfbaaQAlexParity23
import Derived.Test.YtckopilciekfbaaQAlexParity24
import Derived.Test.YtckopilciekfbaaQAlexParity25
import Derived.Test.YtckopilciekfbaaQAlexParity26
import Derived.Test.YtckopilciekfbaaQAlexParity27
import Derived.Test.YtckopilciekfbaaQAlexParity28
import Derived.Test.YtckopilciekfbaaQAlexParity29
import Derived.Test.YtckopilciekfbaaQAlexParity30
import Derived.Test.YtckopilciekfbaaQAlexParity31
import Derived.Test.YtckopilciekfbaaQAlexParity32
import Derived.Test.YtckopilciekfbaaQAlexParity33
import Derived.Test.YtckopilciekfbaaQAlexParity34
import Derived.Test.YtckopilciekfbaaQAlexParity35
import Derived.Test.YtckopilciekfbaaQAlexParity36
import Derived.Test.YtckopilciekfbaaQAlexParity37
import Derived.Test.YtckopilciekfbaaQAlexParity38
import Derived.Test.YtckopilciekfbaaQAlexParity39
import Derived.Test.YtckopilciekfbaaQAlexParity40
import Derived.Test.YtckopilciekfbaaQAlexParity41
import Derived.Test.YtckopilciekfbaaQAlexParity42
import Derived.Test.YtckopilciekfbaaQAlexParity43
import Derived.Test.YtckopilciekfbaaQAlexParity44
import Derived.Test.YtckopilciekfbaaQAlexParity45
import Derived.Test.YtckopilciekfbaaQAlexParity46
import Derived.Test.YtckopilciekfbaaQAlexParity47
import Derived.Test.YtckopilciekfbaaQAlexParity48
import Derived.Test.YtckopilciekfbaaQAlexParity49
import Derived.Test.YtckopilciekfbaaQAlexParity50
import Derived.RangeFuncNested
import Derived.RangeFuncCalls
import Derived.OrdersIn
import Derived.OrdersHeld
import Derived.Deep.RegionHeld
import Derived.Lib.SliceRun
import Derived.Lib.AppendZeros
import Derived.Lib.Walk
namespace Go.Proofs.Ytckopilciekfbaa
open Go.RowKit Go.Sl

set_option maxHeartbeats 8000000 in
set_option maxRecDepth 100000 in
theorem alexanderParity_true {w0 : World} (n : Int) (hn : I64 n) (a : Value) (as1 : List Int) (hra : Ints w0 a as1) (hxa : ∀ x ∈ as1, I64 x) (w : World) (hw : w = w0 := by rfl) :
    Calls Try.prog 3 #[.int .i64 n, a] w fun e w' => e = .returned (.bool true) ∧ Below w.heap.size w w' := by
  subst hw
  obtain ⟨N, hN⟩ : ∃ N : Nat, 2 + n % (6 - 1) = (N : Int) := ⟨(2 + n % (6 - 1)).toNat, by omega⟩
  have hN1 : 2 ≤ N := by omega
  have hN2 : N ≤ 6 := by omega
  obtain ⟨X, hX⟩ : ∃ X, X = wordL ((N : Int) - 1) as1 16 := ⟨_, rfl⟩
  have WX : BWord (N : Int) X := by rw [hX]; exact wordL_bw (by omega) as1 16
  have LX : X.length ≤ 16 := by rw [hX]; exact wordL_length _ as1 16
  have AX := afit WX.nword LX hN1 hN2
  obtain ⟨P, hP⟩ : ∃ P, pnorm (expandL (N - 1) (alexM N X)) = P := ⟨_, rfl⟩
  obtain ⟨M, hM⟩ : ∃ M, N = M + 1 := ⟨N - 1, by omega⟩
  have hone : ∀ L : List Nat, CycOK (backL (strandsL N X)) L → (L.length = 1 → atR 1 P.low P.c = 1 ∨ atR 1 P.low P.c = -1) ∧ (L.length ≠ 1 → atR 1 P.low P.c = 0) := by
    subst hM
    intro L hL
    exact alex_one (by omega) WX.nword hL hP.symm
  have WI : BWord (N : Int) (invL X) := WX.inv
  have LI : (invL X).length ≤ 16 := by rw [invL_len]; exact LX
  have AI := afit WI.nword LI hN1 hN2
  have hdet : (atR (-1) (pnorm (expandL (N - 1) (alexM N (invL X)))).low (pnorm (expandL (N - 1) (alexM N (invL X)))).c).natAbs = (atR (-1) P.low P.c).natAbs := by
    subst hM
    have h1 := alex_inverse WX.nword WI.nword fun t ht f => cancel_acts2 ht (fun x hx => (WX x hx).1) f
    have h2 := h1.pnorm (expandL_trimmed _ _)
    rw [Nat.add_sub_cancel] at hP ⊢
    rw [h2, hP]
  have hpar : ∀ L : List Nat, CycOK (backL (strandsL N X)) L → ((((atR (-1) P.low P.c).natAbs : Int) % 2 == 1) = decide (L.length = 1)) := by
    intro L hL
    obtain ⟨h1, h2⟩ := hone L hL
    have h3 := at_parity P.c P.low
    by_cases e : L.length = 1
    · rw [decide_eq_true e, beq_iff_eq]
      have := h1 e
      omega
    · rw [decide_eq_false e, beq_eq_false_iff_ne]
      have := h2 e
      omega
  have CD := adet_calls N
  have CX := Lib.hid (fun W v hv => CD v X W hv hN1 hN2 WX (by omega) AX.pf AX.fit AX.ok AX.ok2 AX.at2)
  have CI := Lib.hid (fun W v hv => CD v (invL X) W hv hN1 hN2 WI (by omega) AI.pf AI.fit AI.ok AI.ok2 AI.at2)
  have ha2 := AX.at2
  rw [hP] at CX ha2
  rw [hdet] at CI
  obtain ⟨d, hd⟩ : ∃ d, (atR (-1) P.low P.c).natAbs = d := ⟨_, rfl⟩
  rw [hd] at CX CI hpar ha2
  have HWX := Lib.hid WX; have HLX := Lib.hid (show X.length ≤ 30 by omega); have HPAR := Lib.hid hpar
  have HN := Lib.hid hN; have HX0 := Lib.hid hX.symm; have HXA := Lib.hid hxa; have HRA := Lib.hid hra
  have sa := hra.isSl
  clear WX LX WI LI AX AI hone hdet hpar CD hP hd hM hN hX hxa hra P M
  go_enter Try.func3, Try.ntmps3
  go_wp2_with fail
  refine (strands_calls n 6 _ hn (by decide) (by decide)).mono ?_
  rintro e w' ⟨rfl, rfl⟩
  rw [HN.out]
  go_wp2_with fail
  refine (word_calls ((N : Int) - 1) a as1 16 _ HRA.out HXA.out (by omega) (by omega) (by omega)).mono ?_
  rintro e u1 ⟨x, rfl, hx, hb⟩
  rw [HX0.out] at hx
  have sx := hx.isSl
  have HX := Lib.hid (hx.ints)
  have HB := Lib.hid hb
  clear hb
  clear hx
  go_wp2_with fail
  refine (CX.out _ _ HX.out).mono ?_
  rintro e u2 ⟨rfl, hb⟩
  replace HX := Lib.hid (HX.out.below hb)
  replace HB := Lib.hid (Below.chain HB.out hb)
  clear hb
  go_wp2_with fail
  refine (isKnot_calls N _ X _ HX.out hN1 hN2 HWX.out HLX.out).mono ?_
  rintro e u3 ⟨L, rfl, hcy, hb⟩
  have hpr := HPAR.out L hcy
  obtain ⟨b, hbk⟩ : ∃ b, decide (L.length = 1) = b := ⟨_, rfl⟩
  rw [hbk] at hpr ⊢
  clear hcy hbk
  replace HX := Lib.hid (HX.out.below hb)
  replace HB := Lib.hid (Below.chain HB.out hb)
  clear hb
  go_wp2_with fail
  refine (binverse_calls N _ X _ HX.out (by omega) (by omega) HWX.out HLX.out).mono ?_
  rintro e u4 ⟨y, rfl, hy, hb⟩
  have sy := hy.isSl
  have HY := Lib.hid (hy.ints)
  replace HX := Lib.hid (HX.out.below hb)
  replace HB := Lib.hid (Below.chain HB.out hb)
  clear hb
  clear hy
  go_wp2_with fail
  refine (CI.out _ _ HY.out).mono ?_
  rintro e u5 ⟨rfl, hb⟩
  replace HX := Lib.hid (HX.out.below hb)
  replace HY := Lib.hid (HY.out.below hb)
  replace HB := Lib.hid (Below.chain HB.out hb)
  clear hb
  go_wp2_with fail
  refine (alexandered_calls _).mono ?_
  rintro e u6 ⟨rfl, hb⟩
  replace HX := Lib.hid (HX.out.below hb)
  replace HY := Lib.hid (HY.out.below hb)
  replace HB := Lib.hid (Below.chain HB.out hb)
  clear hb
  go_wp2_with fail
  go_ret
  exact ⟨rfl, HB.out⟩

end Go.Proofs.Ytckopilciekfbaa


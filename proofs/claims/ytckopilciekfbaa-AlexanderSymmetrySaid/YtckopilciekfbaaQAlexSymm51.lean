/- AlexanderSymmetry: for every input the statement returns true, and nothing that was there has changed. -/
import Derived.Test.YtckopilciekfbaaQAlexSymm0
import Derived.Test.YtckopilciekfbaaQAlexSymm1
import Derived.Test.YtckopilciekfbaaQAlexSymm2
import Derived.Test.YtckopilciekfbaaQAlexSymm3
import Derived.Test.YtckopilciekfbaaQAlexSymm4
import Derived.Test.YtckopilciekfbaaQAlexSymm5
import Derived.Test.YtckopilciekfbaaQAlexSymm6
import Derived.Test.YtckopilciekfbaaQAlexSymm7
import Derived.Test.YtckopilciekfbaaQAlexSymm8
import Derived.Test.YtckopilciekfbaaQAlexSymm9
import Derived.Test.YtckopilciekfbaaQAlexSymm10
import Derived.Test.YtckopilciekfbaaQAlexSymm11
import Derived.Test.YtckopilciekfbaaQAlexSymm12
import Derived.Test.YtckopilciekfbaaQAlexSymm13
import Derived.Test.YtckopilciekfbaaQAlexSymm14
import Derived.Test.YtckopilciekfbaaQAlexSymm15
import Derived.Test.YtckopilciekfbaaQAlexSymm16
import Derived.Test.YtckopilciekfbaaQAlexSymm17
import Derived.Test.YtckopilciekfbaaQAlexSymm18
import Derived.Test.YtckopilciekfbaaQAlexSymm19
import Derived.Test.YtckopilciekfbaaQAlexSymm20
import Derived.Test.YtckopilciekfbaaQAlexSymm21
import Derived.Test.YtckopilciekfbaaQAlexSymm22
import Derived.Test.YtckopilciekfbaaQAlexSymm23
import Derived.Test.YtckopilciekfbaaQAlexSymm24
import Derived.Test.YtckopilciekfbaaQAlexSymm25
import Derived.Test.YtckopilciekfbaaQAlexSymm26
import Derived.Test.YtckopilciekfbaaQAlexSymm27
import Derived.Test.YtckopilciekfbaaQAlexSymm28
import Derived.Test.YtckopilciekfbaaQAlexSymm29
import Derived.Test.YtckopilciekfbaaQAlexSymm30
import Derived.Test.YtckopilciekfbaaQAlexSymm31
import Derived.Test.YtckopilciekfbaaQAlexSymm32
import Derived.Test.YtckopilciekfbaaQAlexSymm33
import Derived.Test.YtckopilciekfbaaQAlexSymm34
import Derived.Test.YtckopilciekfbaaQAlexSymm35
import Derived.Test.YtckopilciekfbaaQAlexSymm36
import Derived.Test.YtckopilciekfbaaQAlexSymm37
import Derived.Test.YtckopilciekfbaaQAlexSymm38
import Derived.Test.YtckopilciekfbaaQAlexSymm39
import Derived.Test.YtckopilciekfbaaQAlexSymm40
import Derived.Test.YtckopilciekfbaaQAlexSymm41
import Derived.Test.YtckopilciekfbaaQAlexSymm42
import Derived.Test.YtckopilciekfbaaQAlexSymm43
import Derived.Test.YtckopilciekfbaaQAlexSymm44
import Derived.Test.YtckopilciekfbaaQAlexSymm45
import Derived.Test.YtckopilciekfbaaQAlexSymm46
import Derived.Test.YtckopilciekfbaaQAlexSymm47
import Derived.Test.YtckopilciekfbaaQAlexSymm48
import Derived.Test.YtckopilciekfbaaQAlexSymm49
import Derived.Test.YtckopilciekfbaaQAlexSymm50
import Derived.RangeFuncNested
import Derived.RangeFuncBound
import Derived.RangeFuncCalls
import Derived.RangeFuncLeaves
import Derived.RangeFuncBox
import Derived.Shelf.Abstract
import Derived.Shelf.RegionOpen
import Derived.OwnWalkIn
import Derived.TacticsInMore
import Derived.LoopNIn
import Derived.LoopIn
import Derived.Maps.AppendAt
import Derived.Lib.AppendZeros
import Derived.Lib.Walk
import Derived.Lib.SliceRun
import Derived.OrdersIn
import Derived.OrdersHeld
import Derived.Deep.RegionHeld
namespace Go.Proofs.Ytckopilciekfbaa
open Go.RowKit Go.Sl

set_option maxHeartbeats 8000000 in
set_option maxRecDepth 100000 in
theorem alexanderSymmetry_true {w0 : World} (n : Int) (hn : I64 n) (a : Value) (as1 : List Int) (hra : Ints w0 a as1) (hxa : ∀ x ∈ as1, I64 x) (w : World) (hw : w = w0 := by rfl) :
    Calls Try.prog 4 #[.int .i64 n, a] w fun e w' => e = .returned (.bool true) ∧ Below w.heap.size w w' := by
  subst hw
  obtain ⟨N, hN⟩ : ∃ N : Nat, 2 + n % (6 - 1) = (N : Int) := ⟨(2 + n % (6 - 1)).toNat, by omega⟩
  have hN1 : 2 ≤ N := by omega
  have hN2 : N ≤ 6 := by omega
  obtain ⟨X, hX⟩ : ∃ X, X = wordL ((N : Int) - 1) as1 16 := ⟨_, rfl⟩
  have WX : BWord (N : Int) X := by rw [hX]; exact wordL_bw (by omega) as1 16
  have LX : X.length ≤ 16 := by rw [hX]; exact wordL_length _ as1 16
  have AX := afit WX.nword LX hN1 hN2
  obtain ⟨P, hP⟩ : ∃ P, pnorm (expandL (N - 1) (alexM N X)) = P := ⟨_, rfl⟩
  obtain ⟨M, hM⟩ : ∃ M, N = M + 1 := ⟨N - 1, by omega⟩
  have hone : ∀ L : List Nat, CycOK (backL (strandsL N X)) L → (L.length = 1 → atR 1 P.low P.c = 1 ∨ atR 1 P.low P.c = -1) ∧ (L.length ≠ 1 → atR 1 P.low P.c = 0) := by
    subst hM
    intro L hL
    exact alex_one (by omega) WX.nword hL hP.symm
  have hconj : pnorm (pconj P) = P := by
    subst hM
    rw [Nat.add_sub_cancel] at hP
    have h1 := (pnorm_is (expandL_trimmed M (alexM (M + 1) X))).conj.trans (alex_conj WX.nword)
    rw [← hP]
    exact h1.pnorm (expandL_trimmed _ _)
  have hone2 : ∀ L : List Nat, CycOK (backL (strandsL N X)) L → ∀ k, atR 1 P.low P.c = k → (k = 1 ∧ decide (L.length = 1) = true) ∨ (k = -1 ∧ decide (L.length = 1) = true) ∨ (k = 0 ∧ decide (L.length = 1) = false) := by
    intro L hL k hk
    obtain ⟨h1, h2⟩ := hone L hL
    rw [hk] at h1 h2
    by_cases e : L.length = 1
    · rw [decide_eq_true e]
      rcases h1 e with h | h
      · exact .inl ⟨h, rfl⟩
      · exact .inr (.inl ⟨h, rfl⟩)
    · rw [decide_eq_false e]
      exact .inr (.inr ⟨h2 e, rfl⟩)
  have CX := Lib.hid (fun W v hv => alex_calls N v X W hv hN1 hN2 WX (by omega) AX.pf AX.fit AX.ok)
  have OK := AX.ok2; have OKC := AX.okc; have ha1 := AX.at1
  rw [hP] at CX OK OKC ha1
  have HOK := Lib.hid OK; have HOKC := Lib.hid OKC; have HCJ := Lib.hid hconj; have HONE := Lib.hid hone2
  have HWX := Lib.hid WX; have HLX := Lib.hid (show X.length ≤ 30 by omega)
  have HN := Lib.hid hN; have HX0 := Lib.hid hX.symm; have HXA := Lib.hid hxa; have HRA := Lib.hid hra
  have sa := hra.isSl
  clear WX LX AX hone hone2 hconj OK OKC hP hM hN hX hxa hra M
  go_enter Try.func4, Try.ntmps4
  go_wp2_with fail
  refine (strands_calls n 6 _ hn (by decide) (by decide)).mono ?_
  rintro e w' ⟨rfl, rfl⟩
  rw [HN.out]
  go_wp2_with fail
  refine (word_calls ((N : Int) - 1) a as1 16 _ HRA.out HXA.out (by omega) (by omega) (by omega)).mono ?_
  rintro e u1 ⟨x, rfl, hx, hb⟩
  rw [HX0.out] at hx
  have sx := hx.isSl
  have HX := Lib.hid (hx.ints)
  have HB := Lib.hid hb
  clear hb
  clear hx
  go_wp2_with fail
  refine (CX.out _ _ HX.out).mono ?_
  rintro e u2 ⟨p, rfl, hp, hb⟩
  have sp := hp.isSl
  have HP := Lib.hid (hp.ints)
  replace HX := Lib.hid (HX.out.below hb)
  replace HB := Lib.hid (Below.chain HB.out hb)
  clear hb
  clear hp
  go_wp2_with fail
  refine (eval_calls P p 1 _ (HP.out.alloc _) HOK.out (.inl rfl)).mono ?_
  rintro e u3 ⟨rfl, hb⟩
  have hb0 := hb
  replace hb := Below.chain ((Below.refl _ _).alloc (Nat.le_refl _) _) hb
  have q0 := ((pair_new u2 35 (.int .i64 P.low) p)).below hb0
  have HQ0 := Lib.hid q0
  have c0 := q0.cell0; have c1 := q0.cell1
  clear q0 hb0
  obtain ⟨k, hk⟩ : ∃ k, atR 1 P.low P.c = k := ⟨_, rfl⟩
  rw [hk]
  rw [hk] at ha1
  replace HX := Lib.hid (HX.out.below hb)
  replace HP := Lib.hid (HP.out.below hb)
  replace HB := Lib.hid (Below.chain HB.out hb)
  clear hb
  go_wp2_with fail
  refine (conjugate_calls P p _ HP.out HOK.out HOKC.out).mono ?_
  rintro e u4 ⟨c, rfl, hc, hb⟩
  have sc := hc.isSl
  clear c0 c1
  replace HQ0 := Lib.hid (HQ0.out.below hb)
  have HC := Lib.hid (hc.ints)
  replace HX := Lib.hid (HX.out.below hb)
  replace HP := Lib.hid (HP.out.below hb)
  replace HB := Lib.hid (Below.chain HB.out hb)
  clear hb
  clear hc
  go_wp2_with fail
  refine (normalize_calls (pconj P) c _ (HC.out.alloc _) HOKC.out).mono ?_
  rw [HCJ.out]
  rintro e u5 ⟨q, rfl, hq, hb⟩
  have sq := hq.isSl
  have pc := (pair_new u4 35 (.int .i64 (pconj P).low) c).below hb
  have c0 := pc.cell0; have c1 := pc.cell1; have f0 := pc.free0; have f1 := pc.free1
  have hb4 := Below.chain ((Below.refl u4.heap.size u4).alloc (Nat.le_refl _) (.cells #[.int .i64 (pconj P).low, c] 35)) hb
  have hb6 := Lib.hid ((hb4.setCell (p := ⟨u4.heap.size, 0, none⟩) (Nat.le_refl _) (.int .i64 P.low)).setCell (p := ⟨u4.heap.size, 1, none⟩) (Nat.le_refl _) q)
  have hq6 := Lib.hid ((hq.setOther (p := ⟨u4.heap.size, 0, none⟩) (fun b hb hc => by have h1 := (hq.lt b hb).1; simp at h1 hc; omega) (.int .i64 P.low)).setOther (p := ⟨u4.heap.size, 1, none⟩) (fun b hb hc => by have h1 := (hq.lt b hb).1; simp at h1 hc; omega) q)
  have pc6 := Lib.hid (pc.set (.int .i64 P.low) q)
  obtain ⟨W6, hW6⟩ : ∃ W6, (u5.setCell ⟨u4.heap.size, 0, none⟩ (.int .i64 P.low)).setCell ⟨u4.heap.size, 1, none⟩ q = W6 := ⟨_, rfl⟩
  rw [hW6] at hb6 hq6 pc6
  have HW6 := Lib.hid hW6
  clear hW6 hq pc hb4 hb HC
  go_wp2_with fail
  rw [HW6.out]
  replace HX := Lib.hid (HX.out.below hb6.out)
  replace HP := Lib.hid (HP.out.below hb6.out)
  replace HQ0 := Lib.hid (HQ0.out.below hb6.out)
  have HQ := Lib.hid hq6.out.ints
  replace HB := Lib.hid (Below.chain HB.out hb6.out)
  clear hb6 hq6 HW6 c0 c1 f0 f1
  refine (isKnot_calls N _ X _ HX.out hN1 hN2 HWX.out HLX.out).mono ?_
  rintro e u7 ⟨L, rfl, hcy, hb⟩
  have hpr := HONE.out L hcy k hk
  obtain ⟨b, hbk⟩ : ∃ b, decide (L.length = 1) = b := ⟨_, rfl⟩
  rw [hbk] at hpr ⊢
  clear hcy hbk hk
  replace HX := Lib.hid (HX.out.below hb)
  replace HP := Lib.hid (HP.out.below hb)
  replace HQ0 := Lib.hid (HQ0.out.below hb)
  replace HQ := Lib.hid (HQ.out.below hb)
  replace pc6 := Lib.hid (pc6.out.below hb)
  replace HB := Lib.hid (Below.chain HB.out hb)
  clear hb
  go_wp2_with fail
  refine (alexandered_calls _).mono ?_
  rintro e u8 ⟨rfl, hb⟩
  replace HX := Lib.hid (HX.out.below hb)
  replace HP := Lib.hid (HP.out.below hb)
  replace HQ0 := Lib.hid (HQ0.out.below hb)
  replace HQ := Lib.hid (HQ.out.below hb)
  replace pc6 := Lib.hid (pc6.out.below hb)
  replace HB := Lib.hid (Below.chain HB.out hb)
  clear hb
  have c0 := HQ0.out.cell0; have c1 := HQ0.out.cell1; have d0 := pc6.out.cell0; have d1 := pc6.out.cell1
  go_wp2_with fail
  refine (same_yes P P q p _ HQ.out HP.out rfl).mono ?_
  rintro e u9 ⟨rfl, hb⟩
  replace HX := Lib.hid (HX.out.below hb)
  replace HP := Lib.hid (HP.out.below hb)
  replace HQ0 := Lib.hid (HQ0.out.below hb)
  replace HQ := Lib.hid (HQ.out.below hb)
  replace pc6 := Lib.hid (pc6.out.below hb)
  replace HB := Lib.hid (Below.chain HB.out hb)
  clear hb
  rcases hpr with ⟨rfl, rfl⟩ | ⟨rfl, rfl⟩ | ⟨rfl, rfl⟩
  all_goals
    go_wp2_with fail
    go_ret
    exact ⟨rfl, HB.out⟩

end Go.Proofs.Ytckopilciekfbaa


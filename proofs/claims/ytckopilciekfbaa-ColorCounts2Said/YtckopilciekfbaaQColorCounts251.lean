/- ColorCounts2: for every input the statement returns true, and nothing that was there has changed. -/
import Derived.Test.YtckopilciekfbaaQColorCounts20
import Derived.Test.YtckopilciekfbaaQColorCounts21
import Derived.Test.YtckopilciekfbaaQColorCounts22
import Derived.Test.YtckopilciekfbaaQColorCounts23
import Derived.Test.YtckopilciekfbaaQColorCounts24
import Derived.Test.YtckopilciekfbaaQColorCounts25
import Derived.Test.YtckopilciekfbaaQColorCounts26
import Derived.Test.YtckopilciekfbaaQColorCounts27
import Derived.Test.YtckopilciekfbaaQColorCounts28
import Derived.Test.YtckopilciekfbaaQColorCounts29
import Derived.Test.YtckopilciekfbaaQColorCounts210
import Derived.Test.YtckopilciekfbaaQColorCounts211
import Derived.Test.YtckopilciekfbaaQColorCounts212
import Derived.Test.YtckopilciekfbaaQColorCounts213
import Derived.Test.YtckopilciekfbaaQColorCounts214
import Derived.Test.YtckopilciekfbaaQColorCounts215
import Derived.Test.YtckopilciekfbaaQColorCounts216
import Derived.Test.YtckopilciekfbaaQColorCounts217
import Derived.Test.YtckopilciekfbaaQColorCounts218
import Derived.Test.YtckopilciekfbaaQColorCounts219
import Derived.Test.YtckopilciekfbaaQColorCounts220
import Derived.Test.YtckopilciekfbaaQColorCounts221
import Derived.Test.YtckopilciekfbaaQColorCounts222
import Derived.Test.YtckopilciekfbaaQColorCounts223
import Derived.Test.YtckopilciekfbaaQColorCounts224
import Derived.Test.YtckopilciekfbaaQColorCounts225
import Derived.Test.YtckopilciekfbaaQColorCounts226
import Derived.Test.YtckopilciekfbaaQColorCounts227
import Derived.Test.YtckopilciekfbaaQColorCounts228
import Derived.Test.YtckopilciekfbaaQColorCounts229
import Derived.Test.YtckopilciekfbaaQColorCounts230
import Derived.Test.YtckopilciekfbaaQColorCounts231
import Derived.Test.YtckopilciekfbaaQColorCounts232
import Derived.Test.YtckopilciekfbaaQColorCounts233
import Derived.Test.YtckopilciekfbaaQColorCounts234
import Derived.Test.YtckopilciekfbaaQColorCounts235
import Derived.Test.YtckopilciekfbaaQColorCounts236
import Derived.Test.YtckopilciekfbaaQColorCounts237
import Derived.Test.YtckopilciekfbaaQColorCounts238
import Derived.Test.YtckopilciekfbaaQColorCounts239
import Derived.Test.YtckopilciekfbaaQColorCounts240
import Derived.Test.YtckopilciekfbaaQColorCounts241
import Derived.Test.YtckopilciekfbaaQColorCounts242
import Derived.Test.YtckopilciekfbaaQColorCounts243
import Derived.Test.YtckopilciekfbaaQColorCounts244
import Derived.Test.YtckopilciekfbaaQColorCounts245
import Derived.Test.YtckopilciekfbaaQColorCounts246
import Derived.Test.YtckopilciekfbaaQColorCounts247
import Derived.Test.YtckopilciekfbaaQColorCounts248
import Derived.Test.YtckopilciekfbaaQColorCounts249
import Derived.Test.YtckopilciekfbaaQColorCounts250
import Derived.Shelf.Strings.Builder1
import Derived.Deep.RegionWith
import Derived.RangeFuncNested
import Derived.RangeFuncCalls
import Derived.OrdersIn
import Derived.OrdersHeld
import Derived.Deep.RegionHeld
import Derived.Deep.CutRange
import Derived.RangeFuncBound
import Derived.RangeFuncLeaves
import Derived.RangeFuncBox
import Derived.Shelf.Abstract
import Derived.Shelf.RegionOpen
import Derived.OwnWalkIn
import Derived.TacticsInMore
import Derived.LoopNIn
import Derived.LoopIn
import Derived.Maps.AppendAt
import Derived.Lib.SliceRun
import Derived.Lib.AppendZeros
import Derived.Lib.Walk
import Derived.Deep.RegionHeld3
namespace Go.Proofs.Ytckopilciekfbaa
open Go.RowKit Go.Sl

theorem shl_two : ∀ m : Fin 7, IntKind.i64.wrap ((2 : Int) ^ m.val) = ((2 ^ m.val : Nat) : Int) := by decide +kernel
set_option maxHeartbeats 8000000 in
set_option maxRecDepth 100000 in
theorem colorCounts2_true {w0 : World} (n : Int) (hn : I64 n) (a : Value) (as1 : List Int) (hra : Ints w0 a as1) (hxa : ∀ x ∈ as1, I64 x) (m0 : Int) (hm0 : I64 m0) (w : World) (hw : w = w0 := by rfl) :
    Calls Try.prog 6 #[.int .i64 n, a, .int .i64 m0] w fun e w' => e = .returned (.bool true) ∧ Below w.heap.size w w' := by
  subst hw
  obtain ⟨N, hN⟩ : ∃ N : Nat, 2 + n % (6 - 1) = (N : Int) := ⟨(2 + n % (6 - 1)).toNat, by omega⟩
  have hN1 : 2 ≤ N := by omega
  have hN2 : N ≤ 6 := by omega
  obtain ⟨X, hX⟩ : ∃ X, X = wordL ((N : Int) - 1) as1 20 := ⟨_, rfl⟩
  have WX : BWord (N : Int) X := by rw [hX]; exact wordL_bw (by omega) as1 20
  have LX : X.length ≤ 20 := by rw [hX]; exact wordL_length _ as1 20
  obtain ⟨M, hM⟩ : ∃ M : Nat, 1 + m0 % 13 = (M : Int) := ⟨(1 + m0 % 13).toNat, by omega⟩
  have hM1 : 0 < M := by omega
  have hM13 : M ≤ 13 := by omega
  have bd : ∀ (p : Nat) (Y : List (List Int)), 0 < p → p ≤ 13 → solL (smithL Y N N) p N ≤ 4826809 := fun p Y h1 h2 => by
    rw [solL_square]
    refine Nat.le_trans (solTo_le _ _ h1 _) ?_
    exact Nat.le_trans (Nat.pow_le_pow_left h2 N) (Nat.le_trans (Nat.pow_le_pow_right (by decide) hN2) (by decide))
  have b2 : solL (smithL (colM N 2 X) N N) 2 N ≤ 64 := by
    rw [solL_square]
    exact Nat.le_trans (solTo_le _ _ (by decide) _) (Nat.le_trans (Nat.pow_le_pow_right (by decide) hN2) (by decide))
  have b3 : solL (smithL (colM N 3 X) N N) 3 N ≤ 729 := by
    rw [solL_square]
    exact Nat.le_trans (solTo_le _ _ (by decide) _) (Nat.le_trans (Nat.pow_le_pow_right (by decide) hN2) (by decide))
  have h6 := six_law (n := N) hN2 WX.nword
  obtain ⟨Q, hQ0, hQ⟩ := mod_law (n := N) hN2 (by omega) WX.nword hM1
  have bM := bd M (colM N M X) hM1 hM13
  have two : ∀ L : List Nat, CycOK (backL (strandsL N X)) L → solL (smithL (colM N 2 X) N N) 2 N = 2 ^ L.length ∧ L.length ≤ 6 := fun L hL =>
    ⟨two_law hN2 WX.nword hL, Nat.le_trans (pmI_unit hN2 (strands_perm (n := N) (by omega) X WX.nword).back (by rw [backL_length, strandsL_length]) hL).2 hN2⟩
  have C2 := Lib.hid (fun W v hv => ccount_calls N 2 v X W hv hN1 hN2 (by decide) (by decide) WX (by omega))
  have C3 := Lib.hid (fun W v hv => ccount_calls N 3 v X W hv hN1 hN2 (by decide) (by decide) WX (by omega))
  have C6 := Lib.hid (fun W v hv => ccount_calls N 6 v X W hv hN1 hN2 (by decide) (by decide) WX (by omega))
  have CM := Lib.hid (fun W v hv => ccount_calls N M v X W hv hN1 hN2 hM1 hM13 WX (by omega))
  have e2 : matI N (colF 2 N ((1 : Int) % ((2 : Nat) : Int)) X) = colM N 2 X := rfl
  have e3 : matI N (colF 3 N ((1 : Int) % ((3 : Nat) : Int)) X) = colM N 3 X := rfl
  have e6 : matI N (colF 6 N ((1 : Int) % ((6 : Nat) : Int)) X) = colM N 6 X := rfl
  have eM : matI N (colF M N ((1 : Int) % (M : Int)) X) = colM N M X := rfl
  rw [e2] at C2
  rw [e3] at C3
  rw [e6, h6] at C6
  rw [eM, hQ] at CM
  rw [hQ] at bM
  obtain ⟨T2, hT2⟩ : ∃ T2, solL (smithL (colM N 2 X) N N) 2 N = T2 := ⟨_, rfl⟩
  obtain ⟨T3, hT3⟩ : ∃ T3, solL (smithL (colM N 3 X) N N) 3 N = T3 := ⟨_, rfl⟩
  rw [hT2] at C2 C6 two b2
  rw [hT3] at C3 C6 b3
  have hTT : T2 * T3 ≤ 64 * 729 := Nat.mul_le_mul b2 b3
  obtain ⟨T6, hT6⟩ : ∃ T6, T2 * T3 = T6 := ⟨_, rfl⟩
  rw [hT6] at C6 hTT
  have hT6i : (T2 : Int) * (T3 : Int) = (T6 : Int) := by rw [← hT6, Int.natCast_mul]
  obtain ⟨K, hK⟩ : ∃ K, Q * M = K := ⟨_, rfl⟩
  rw [hK] at CM bM
  have hKM : M ≤ K := by rw [← hK]; exact Nat.le_mul_of_pos_left M hQ0
  have hKd : (K : Int) % (M : Int) = 0 := by rw [← hK, Int.natCast_mul]; exact Int.mul_emod_left _ _
  have hKt : (K : Int).tmod (M : Int) = 0 := by rw [Int.tmod_eq_emod_of_nonneg (by omega)]; exact hKd
  have hcl : ∀ b : Int, 0 ≤ b → b < M → prop M (List.replicate N b) X = List.replicate N b := fun b h0 h1 => prop_const (by omega) h0 h1 X WX.nword
  have HTWO := Lib.hid two; have HT6 := Lib.hid hT6i; have HKD := Lib.hid hKd; have HKT := Lib.hid hKt; have HCL := Lib.hid hcl
  have HWX := Lib.hid WX; have HLX := Lib.hid (show X.length ≤ 30 by omega)
  have HN := Lib.hid hN; have HM := Lib.hid hM; have HX0 := Lib.hid hX.symm; have HXA := Lib.hid hxa; have HRA := Lib.hid hra
  have sa := hra.isSl
  obtain ⟨lx, hlx⟩ : ∃ lx, X.length = lx := ⟨_, rfl⟩
  rw [hlx] at LX
  have HLL := Lib.hid hlx
  clear WX two hT6 hT6i hK hKd hKt hcl bd h6 hQ hQ0 e2 e3 e6 eM hT2 hT3 hN hM hX hxa hra hlx
  go_enter Try.func6, Try.ntmps6
  go_wp2_with fail
  refine (strands_calls n 6 _ hn (by decide) (by decide)).mono ?_
  rintro e w' ⟨rfl, rfl⟩
  rw [HN.out]
  go_wp2_with fail
  refine (below_calls m0 13 _ (by decide) (by decide) hm0).mono ?_
  rintro e w' ⟨rfl, rfl⟩
  obtain ⟨bm, hbm⟩ : ∃ bm, m0 % 13 = bm := ⟨_, rfl⟩
  have hbmM : 1 + bm = (M : Int) := by rw [← hbm]; exact HM.out
  have hwM : IntKind.i64.wrap (1 + bm) = (M : Int) := by rw [hbmM]; exact IntWalk.i64_in _ ⟨by omega, by omega⟩
  rw [hbm]
  have HWM := Lib.hid hbmM
  clear hbm hbmM
  go_wp2_with fail
  refine (word_calls ((N : Int) - 1) a as1 20 _ HRA.out HXA.out (by omega) (by omega) (by omega)).mono ?_
  rintro e u1 ⟨x, rfl, hx, hb⟩
  rw [HX0.out] at hx
  have sx := hx.isSl
  have lx0 := hx.len
  rw [HLL.out] at lx0
  have HX := Lib.hid (hx.ints)
  have HB := Lib.hid hb
  clear hb
  clear hx
  go_wp2_with fail
  refine (components_calls N _ X _ HX.out hN1 hN2 HWX.out HLX.out).mono ?_
  rintro e u2 ⟨l, vs, C, lab, rfl, hr, hcy, hlab, hb⟩
  have sl := hr.isSl
  have ll := hr.len
  have ht2 := HTWO.out _ hcy
  rw [List.length_map] at ht2
  obtain ⟨c, hc⟩ : ∃ c, C.length = c := ⟨_, rfl⟩
  rw [hc] at ht2 ll
  obtain ⟨ht2, hc6⟩ := ht2
  have hsh : IntKind.i64.wrap ((2 : Int) ^ c) = (T2 : Int) := by rw [ht2]; exact shl_two ⟨c, by omega⟩
  clear hr hcy hlab hc ht2
  replace HX := Lib.hid (HX.out.below hb)
  replace HB := Lib.hid (Below.chain HB.out hb)
  clear hb
  go_wp2_with fail
  refine (C2.out _ _ HX.out).mono ?_
  rintro e u3 ⟨rfl, hb⟩
  replace HX := Lib.hid (HX.out.below hb)
  replace HB := Lib.hid (Below.chain HB.out hb)
  clear hb
  go_wp2_with fail
  refine (C3.out _ _ HX.out).mono ?_
  rintro e u4 ⟨rfl, hb⟩
  replace HX := Lib.hid (HX.out.below hb)
  replace HB := Lib.hid (Below.chain HB.out hb)
  clear hb
  go_wp2_with fail
  refine (C6.out _ _ HX.out).mono ?_
  rintro e u5 ⟨rfl, hb⟩
  replace HX := Lib.hid (HX.out.below hb)
  replace HB := Lib.hid (Below.chain HB.out hb)
  clear hb
  go_wp2_with fail
  refine (CM.out _ _ HX.out).mono ?_
  rintro e u6 ⟨rfl, hb⟩
  replace HX := Lib.hid (HX.out.below hb)
  replace HB := Lib.hid (Below.chain HB.out hb)
  clear hb
  have hwl : IntKind.i64.wrap ((N : Int) + (lx : Int)) = (N : Int) + (lx : Int) := IntWalk.i64_in _ ⟨by omega, by omega⟩
  go_wp2_with fail
  refine (below_calls ((N : Int) + (lx : Int)) (M : Int) _ (by omega) (by omega) (by unfold I64; omega)).mono ?_
  rintro e w' ⟨rfl, rfl⟩
  obtain ⟨b, hb⟩ : ∃ b, ((N : Int) + (lx : Int)) % (M : Int) = b := ⟨_, rfl⟩
  have hb0 : 0 ≤ b := by rw [← hb]; exact Int.emod_nonneg _ (by omega)
  have hb1 : b < M := by rw [← hb]; exact Int.emod_lt_of_pos _ (by omega)
  rw [hb]
  clear hb
  have hfl : (List.replicate N [b]).flatten = List.replicate N b := by simp
  have hcol : Colors (M : Int) (List.replicate N b) := fun x hx => by rw [(List.mem_replicate.1 hx).2]; exact ⟨hb0, hb1⟩
  have hpc := HCL.out b hb0 hb1
  have HFL := Lib.hid hfl; have HCO := Lib.hid hcol; have HPC := Lib.hid hpc
  clear hfl hcol hpc
  go_wp2_with fail
  refine (repeat_calls _ [b] N _ (ints_lit [b] (by simp) rfl rfl (by simp)) (by omega) (by omega) (by simp) (by simp; omega)).mono ?_
  rintro e u7 ⟨o, rfl, ho, hb⟩
  have hb0 := hb
  replace hb := Below.chain ((Below.refl _ _).alloc (Nat.le_refl _) _) hb
  rw [HFL.out] at ho
  have so := ho.isSl
  clear hb0
  have HO := Lib.hid (ho.ints)
  replace HX := Lib.hid (HX.out.below hb)
  replace HB := Lib.hid (Below.chain HB.out hb)
  clear hb
  clear ho
  go_wp2_with fail
  refine (cpropagate_calls N (M : Int) x o X (List.replicate N b) _ HX.out HO.out (by omega) (by omega) (by omega) (by omega) (by simp) HWX.out HCO.out HLX.out).mono ?_
  rintro e u8 ⟨q, rfl, hq, hb⟩
  rw [HPC.out] at hq
  have sq := hq.isSl
  have HQ := Lib.hid (hq.ints)
  replace HX := Lib.hid (HX.out.below hb)
  replace HO := Lib.hid (HO.out.below hb)
  replace HB := Lib.hid (Below.chain HB.out hb)
  clear hb
  clear hq
  go_wp2_with fail
  refine (colored_calls _).mono ?_
  rintro e u9 ⟨rfl, hb⟩
  replace HX := Lib.hid (HX.out.below hb)
  replace HO := Lib.hid (HO.out.below hb)
  replace HQ := Lib.hid (HQ.out.below hb)
  replace HB := Lib.hid (Below.chain HB.out hb)
  clear hb
  have hwm : IntKind.i64.wrap ((T2 : Int) * (T3 : Int)) = (T6 : Int) := by rw [HT6.out]; exact IntWalk.i64_in _ ⟨by omega, by omega⟩
  have hkd := HKD.out; have hkt := HKT.out
  have hge : ¬ ((K : Int) < (M : Int)) := by omega
  clear HT6 HKD HKT C2 C3 C6 CM HTWO HCL HX hKM bM b2 b3
  go_wp2_with fail
  refine (equal_yes _ _ (List.replicate N b) (List.replicate N b) _ HQ.out HO.out rfl).mono ?_
  rintro e u10 ⟨rfl, hb⟩
  replace HO := Lib.hid (HO.out.below hb)
  replace HQ := Lib.hid (HQ.out.below hb)
  replace HB := Lib.hid (Below.chain HB.out hb)
  clear hb
  go_wp2_with fail
  go_ret
  exact ⟨rfl, HB.out⟩

end Go.Proofs.Ytckopilciekfbaa


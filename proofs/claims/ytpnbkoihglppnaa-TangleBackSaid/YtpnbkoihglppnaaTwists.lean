/- tangle.FromTwists walked. -/
import Derived.Test.YtpnbkoihglppnaaExpand
import Derived.Shelf.Abstract
namespace Go.Proofs.Ytpnbkoihglppnaa
open Go.RowKit Go.Sl

theorem twist_enters {k : FuncId} (h : Go.Proofs.Enters Try.prog k) : ∀ args w, (callFunc k args).run Try.prog w = .ok (.enter k args) w := h

set_option maxRecDepth 100000 in
theorem tfit_calls (n d : Int) (w : World) (hok : FracOk n d) :
    Calls Try.prog 103 #[.agg #[.int .i64 n, .int .i64 d]] w fun e w' => e = .returned (.tuple #[.agg #[.int .i64 n, .int .i64 d], .int .i64 0]) ∧ Below w.heap.size w w' := by
  have HC := Lib.hid (fun W => tcheck_calls n d W hok)
  obtain ⟨W1, hW1⟩ : ∃ W1, W1 = (w.alloc (.cells #[.int .i64 n, .int .i64 d] 68)).alloc (.cells #[.int .i64 0, .int .i64 0] 68) := ⟨_, rfl⟩
  have hp0 : Pair W1 w.heap.size 68 (.int .i64 n) (.int .i64 d) := by rw [hW1]; exact (pair_new _ _ _ _).alloc _
  have hp1 : Pair W1 (w.heap.size + 1) 68 (.int .i64 0) (.int .i64 0) := by rw [hW1]; have := pair_new (w.alloc (.cells #[.int .i64 n, .int .i64 d] 68)) 68 (.int .i64 0) (.int .i64 0); rwa [World.size_alloc] at this
  have hb1 : Below w.heap.size w W1 := by rw [hW1]; exact ((Below.refl _ _).alloc (Nat.le_refl _) _).alloc (by simp) _
  have HW1 := Lib.hid hW1.symm; have HP0 := Lib.hid hp0; have HP1 := Lib.hid hp1; have HB1 := Lib.hid hb1
  clear hW1 hok hp0 hp1 hb1
  go_enter Try.func103, Try.ntmps103
  go_wp2_with fail
  rw [HW1.out]
  refine (HC.out _).mono ?_
  rintro e w2 ⟨rfl, hb2⟩
  have k0 := HP0.out.below hb2
  have k1 := HP1.out.below hb2
  have hsz : w.heap.size + 1 < w2.heap.size := k1.lt
  have c0 := k0.cell0; have c1 := k0.cell1; have d0 := k1.cell0; have d1 := k1.cell1; have f0 := k1.free0; have f1 := k1.free1
  have hlt := HP0.out.lt
  have HB2 := Lib.hid (HB1.out.trans (hb2.mono (by omega))); have K1 := Lib.hid k1
  clear hb2 k0 k1
  go_wp2_with fail
  exact bodyPost_ret (v := .tuple #[.agg #[.int .i64 n, .int .i64 d], .int .i64 0]) (by simp [results, Try.results103, go_sem, hsz, d0, d1]) rfl ⟨rfl, (HB2.out.setCell (by simp) _).setCell (by simp) _⟩

theorem ftw1_calls (x : Int) (w : World) (h1 : -999 ≤ x) (h2 : x ≤ 999) :
    Calls Try.prog 101 #[.int .i64 x] w fun e w' => e = .returned (.bool (decide (x < -9 ∨ 9 < x))) ∧ w = w' := by
  by_cases a : x < -9
  · have b : ¬ 9 < x := by omega
    rw [show decide (x < -9 ∨ 9 < x) = true from decide_eq_true (.inl a)]
    go_enter Try.func101, Try.ntmps101
    go_wp2_with fail
    go_ret
    exact ⟨rfl, rfl⟩
  · by_cases b : 9 < x
    · rw [show decide (x < -9 ∨ 9 < x) = true from decide_eq_true (.inr b)]
      go_enter Try.func101, Try.ntmps101
      go_wp2_with fail
      go_ret
      exact ⟨rfl, rfl⟩
    · rw [show decide (x < -9 ∨ 9 < x) = false from decide_eq_false (by omega)]
      go_enter Try.func101, Try.ntmps101
      go_wp2_with fail
      go_ret
      exact ⟨rfl, rfl⟩
theorem tb1_calls (x : Int) (w : World) (h1 : -999 ≤ x) (h2 : x ≤ 999) :
    Calls Try.prog 56 #[.int .i64 x] w fun e w' => e = .returned (.bool (decide (x < -9 ∨ 9 < x))) ∧ w = w' := by
  by_cases a : x < -9
  · have b : ¬ 9 < x := by omega
    rw [show decide (x < -9 ∨ 9 < x) = true from decide_eq_true (.inl a)]
    go_enter Try.func56, Try.ntmps56
    go_wp2_with fail
    go_ret
    exact ⟨rfl, rfl⟩
  · by_cases b : 9 < x
    · rw [show decide (x < -9 ∨ 9 < x) = true from decide_eq_true (.inr b)]
      go_enter Try.func56, Try.ntmps56
      go_wp2_with fail
      go_ret
      exact ⟨rfl, rfl⟩
    · rw [show decide (x < -9 ∨ 9 < x) = false from decide_eq_false (by omega)]
      go_enter Try.func56, Try.ntmps56
      go_wp2_with fail
      go_ret
      exact ⟨rfl, rfl⟩
/-- Whether some number is out of -9 to 9, by any function that tells it of one. -/
theorem containsBig (v : Value) (xs : List Int) (k : FuncId) (hk : ∀ args w, (callFunc k args).run Try.prog w = .ok (.enter k args) w) (w : World) (hv : Ints w v xs)
    (hf : ∀ x, x ∈ xs → Calls Try.prog k #[.int .i64 x] w fun e w' => e = .returned (.bool (decide (x < -9 ∨ 9 < x))) ∧ w = w') :
    Calls Try.prog 28 #[v, .func (.func k) #[] #[]] w fun e w' => e = .returned (.bool (decide (∃ x ∈ xs, x < -9 ∨ 9 < x))) ∧ w = w' := by
  by_cases h : ∃ m, m < xs.length ∧ (nth xs m < -9 ∨ 9 < nth xs m)
  · obtain ⟨m, hm, hmin, hP⟩ : ∃ m, m < xs.length ∧ (∀ j, j < m → ¬ (nth xs j < -9 ∨ 9 < nth xs j)) ∧ (nth xs m < -9 ∨ 9 < nth xs m) := by
      obtain ⟨m, hm, hP⟩ := h
      induction m using Nat.strongRecOn with
      | _ m ih =>
        by_cases hj : ∃ j, j < m ∧ (nth xs j < -9 ∨ 9 < nth xs j)
        · obtain ⟨j, hjm, hjP⟩ := hj
          exact ih j hjm (by omega) hjP
        · exact ⟨m, hm, fun j hjm hjP => hj ⟨j, hjm, hjP⟩, hP⟩
    have he : decide (∃ x ∈ xs, x < -9 ∨ 9 < x) = true := decide_eq_true ⟨_, nth_mem hm, hP⟩
    rw [he]
    exact containsFunc_some v xs k #[] hk m w hv hm (fun j hj => by
      have := hf _ (nth_mem (show j < xs.length by omega))
      rw [decide_eq_false (hmin j hj)] at this
      exact this) (by
      have := hf _ (nth_mem hm)
      rw [decide_eq_true hP] at this
      exact this)
  · have hno : ∀ x ∈ xs, ¬ (x < -9 ∨ 9 < x) := fun x hx hP => by
      obtain ⟨j, hj, rfl⟩ := List.mem_iff_getElem.1 hx
      exact h ⟨j, hj, by rw [nth_lt hj]; exact hP⟩
    have he : decide (∃ x ∈ xs, x < -9 ∨ 9 < x) = false := decide_eq_false fun ⟨x, hx, hP⟩ => hno x hx hP
    rw [he]
    exact containsFunc_none v xs k #[] hk w hv (fun x hx => by
      have := hf x hx
      rw [decide_eq_false (hno x hx)] at this
      exact this)

set_option maxHeartbeats 2000000 in
set_option maxRecDepth 100000 in
theorem fromTwists_calls (v : Value) (cs : List Int) (n d : Int) (w : World) (hv : Ints w v cs) (hok : FracOk n d) (htw : twL cs = (n, d)) (hb : ∀ k, (twL (cs.take k)).1.natAbs ≤ 999 ∧ (twL (cs.take k)).2.natAbs ≤ 999) (he : ∀ x ∈ cs, -999 ≤ x ∧ x ≤ 999) (hl : cs.length ≤ 999) :
    Calls Try.prog 55 #[v] w fun e w' => ∃ p q er : Int, e = .returned (.tuple #[.agg #[.int .i64 p, .int .i64 q], .int .i64 er]) ∧ (12 < cs.length ∧ er = 2 ∨ cs.length ≤ 12 ∧ (∃ x ∈ cs, x < -9 ∨ 9 < x) ∧ er = 1 ∨ cs.length ≤ 12 ∧ (¬ ∃ x ∈ cs, x < -9 ∨ 9 < x) ∧ er = 0 ∧ p = n ∧ q = d) ∧ Below w.heap.size w w' := by
  have sv := hv.isSl
  obtain ⟨L, hL⟩ : ∃ L, cs.length = L := ⟨_, rfl⟩
  have lv := hv.len
  rw [hL] at lv hl ⊢
  obtain ⟨W1, hW1⟩ : ∃ W1, W1 = w.alloc (.cells #[.int .i64 0, .int .i64 0] 68) := ⟨_, rfl⟩
  have hp1 : Pair W1 w.heap.size 68 (.int .i64 0) (.int .i64 0) := by rw [hW1]; exact pair_new _ _ _ _
  have hb1 : Below w.heap.size w W1 := by rw [hW1]; exact (Below.refl _ _).alloc (Nat.le_refl _) _
  have hs1 : W1.heap.size = w.heap.size + 1 := by rw [hW1]; simp
  have hv1 : Ints W1 v cs := hv.below hb1
  have HC := Lib.hid (containsBig v cs _ (twist_enters (Go.Proofs.enters_of Try.func101 (by kernel_rfl) rfl)) W1 hv1 (fun x hx => ftw1_calls x W1 (he x hx).1 (he x hx).2))
  have d0 := hp1.cell0; have d1 := hp1.cell1; have f0 := hp1.free0; have f1 := hp1.free1
  have HW1 := Lib.hid hW1.symm; have HP1 := Lib.hid hp1; have HB1 := Lib.hid hb1; have HS1 := Lib.hid hs1; have HV1 := Lib.hid hv1; have HL := Lib.hid hL; have HOK := Lib.hid hok; have HTW := Lib.hid htw; have HB := Lib.hid hb; have HE := Lib.hid he
  have hsz : w.heap.size < W1.heap.size := hp1.lt
  have HV := Lib.hid hv
  clear hW1 hp1 hb1 hs1 hv1 hL hok htw hb he hv
  by_cases h12 : 12 < L
  · have h12i : (12 : Int) < (L : Int) := by omega
    go_enter Try.func55, Try.ntmps55
    go_wp2_with fail
    exact bodyPost_ret (v := .tuple #[.agg #[.int .i64 0, .int .i64 0], .int .i64 2]) (by simp [results, Try.results55, go_sem]) rfl ⟨0, 0, 2, rfl, .inl ⟨h12, rfl⟩, (Below.refl _ _).alloc (Nat.le_refl _) _⟩
  · have h12i : ¬ (12 : Int) < (L : Int) := by omega
    by_cases hbig : ∃ x ∈ cs, x < -9 ∨ 9 < x
    · rw [decide_eq_true hbig] at HC
      have HBIG := Lib.hid hbig; clear hbig
      go_enter Try.func55, Try.ntmps55
      go_wp2_with fail
      rw [HW1.out]
      refine HC.out.mono ?_
      rintro e w' ⟨rfl, rfl⟩
      go_wp2_with fail
      exact bodyPost_ret (v := .tuple #[.agg #[.int .i64 0, .int .i64 0], .int .i64 1]) (by simp [results, Try.results55, go_sem, d0, d1, hsz]) rfl ⟨0, 0, 1, rfl, .inr (.inl ⟨by omega, HBIG.out, rfl⟩), (HB1.out.setCell (by simp) _).setCell (by simp) _⟩
    · rw [decide_eq_false hbig] at HC
      have HBIG := Lib.hid hbig; clear hbig
      go_enter Try.func55, Try.ntmps55
      go_wp2_with fail
      rw [HW1.out]
      refine HC.out.mono ?_
      rintro e w' ⟨rfl, rfl⟩
      go_wp2_with fail
      obtain ⟨W3, hW3⟩ : ∃ W3, W3 = W1.alloc (.cells #[.int .i64 1, .int .i64 0] 68) := ⟨_, rfl⟩
      have hp3 : Pair W3 (w.heap.size + 1) 68 (.int .i64 1) (.int .i64 0) := by rw [hW3, ← HS1.out]; exact pair_new _ _ _ _
      have hq3 : Pair W3 w.heap.size 68 (.int .i64 0) (.int .i64 0) := by rw [hW3]; exact HP1.out.alloc _
      have hb3 : Below w.heap.size w W3 := by rw [hW3]; exact HB1.out.alloc (by rw [HS1.out]; omega) _
      have hv3 : Ints W3 v cs := by rw [hW3]; exact HV1.out.alloc _
      have hs3 : w.heap.size + 1 < W3.heap.size := hp3.lt
      rw [← hW3]
      rw [HS1.out]
      have HP3 := Lib.hid hp3; have HQ3 := Lib.hid hq3; have HB3 := Lib.hid hb3; have HV3 := Lib.hid hv3
      clear hW3 hp3 hq3 hb3 hv3 d0 d1 f0 f1
      go_loopw [17] (fun i wr => ∃ k : Nat, k ≤ L ∧ i = .int .i64 k ∧ Pair wr (w.heap.size + 1) 68 (.int .i64 (twL (cs.take k)).1) (.int .i64 (twL (cs.take k)).2) ∧ Pair wr w.heap.size 68 (.int .i64 0) (.int .i64 0) ∧ Below w.heap.size w wr ∧ Ints wr v cs) (fun i _ => L - (intOf i).toNat)
      case atStart => exact ⟨0, Nat.zero_le _, rfl, HP3.out, HQ3.out, HB3.out, HV3.out⟩
      case round =>
        obtain ⟨k, hk, rfl, hp, hq, hbr, hvr⟩ := hrel
        obtain ⟨hb1, hb2⟩ := HB.out k
        obtain ⟨a, b, hab⟩ : ∃ a b, twL (cs.take k) = (a, b) := ⟨_, _, rfl⟩
        rw [hab] at hp hb1 hb2
        simp only at hp hb1 hb2
        have p0 := hp.cell0; have p1 := hp.cell1; have e0 := hp.free0; have e1 := hp.free1
        have q0 := hq.cell0; have q1 := hq.cell1; have g0 := hq.free0; have g1 := hq.free1
        have hlt1 := hp.lt
        by_cases hlt : k < L
        · have hkc : k < cs.length := by rw [HL.out]; exact hlt
          have cx := hvr.cell hkc
          obtain ⟨x, hx⟩ : ∃ x, nth cs k = x := ⟨_, rfl⟩
          have hxb := HE.out _ (nth_mem hkc)
          rw [hx] at cx hxb
          obtain ⟨hx1, hx2⟩ := hxb
          have hst : twL (cs.take (k + 1)) = stepT (a, b) x := by
            rw [List.take_succ_eq_append_getElem hkc, twL_snoc, hab, ← nth_lt hkc, hx]
          obtain ⟨c, f, hcf⟩ : ∃ c f, invF a b = (c, f) := ⟨_, _, rfl⟩
          have hcfb : c.natAbs ≤ 1000 ∧ f.natAbs ≤ 1000 := by
            unfold invF at hcf
            split at hcf
            · cases hcf; omega
            · split at hcf
              · cases hcf; decide
              · cases hcf; omega
          obtain ⟨hcb, hfb⟩ := hcfb
          have hst2 : twL (cs.take (k + 1)) = (c + x * f, f) := by rw [hst]; unfold stepT; simp only [hcf]
          have HINV := Lib.hid (fun W => tinverse_calls a b W (by omega) (by omega))
          rw [hcf] at HINV
          have HPP := Lib.hid hp; have HQQ := Lib.hid hq; have HBR := Lib.hid hbr; have HVR := Lib.hid hvr; have HST := Lib.hid hst2
          clear hp hq hbr hvr hst hst2 hab hcf hx
          go_wp2_with fail
          refine (HINV.out _).mono ?_
          rintro e w3 ⟨rfl, hb3⟩
          have k1 := HPP.out.below hb3; have k2 := HQQ.out.below hb3
          have hb03 := HBR.out.trans (hb3.mono HBR.out.size)
          have hv3 := HVR.out.below hb3
          have hlt3 := k1.lt
          have K1 := Lib.hid k1; have K2 := Lib.hid k2; have HB03 := Lib.hid hb03; have HV3' := Lib.hid hv3
          clear k1 k2 hb03 hv3 hb3 p0 p1 e0 e1 q0 q1 g0 g1
          go_wp2_with fail
          refine (tplus_calls c f x _ (by omega) (by omega) (by omega)).mono ?_
          rintro e w4 ⟨rfl, hb4⟩
          have k1 := K1.out.below hb4; have k2 := K2.out.below hb4
          have hb04 := HB03.out.trans (hb4.mono HB03.out.size)
          have hv4 := HV3'.out.below hb4
          have hlt4 := k1.lt
          have p0 := k1.cell0; have p1 := k1.cell1; have e0 := k1.free0; have e1 := k1.free1
          have k3 := k1.set (.int .i64 (c + x * f)) (.int .i64 f)
          have k4 := (k2.other (C := w.heap.size + 1) (by omega) 0 (.int .i64 (c + x * f))).other (C := w.heap.size + 1) (by omega) 1 (.int .i64 f)
          have hb5 : Below w.heap.size w ((w4.setCell ⟨w.heap.size + 1, 0, none⟩ (.int .i64 (c + x * f))).setCell ⟨w.heap.size + 1, 1, none⟩ (.int .i64 f)) := (hb04.setCell (by simp) _).setCell (by simp) _
          have hv5 : Ints ((w4.setCell ⟨w.heap.size + 1, 0, none⟩ (.int .i64 (c + x * f))).setCell ⟨w.heap.size + 1, 1, none⟩ (.int .i64 f)) v cs := HV.out.below hb5
          have K3 := Lib.hid k3; have K4 := Lib.hid k4; have HB5 := Lib.hid hb5; have HV5 := Lib.hid hv5
          clear k1 k2 k3 k4 hb04 hv4 hb5 hv5 hb4
          go_wp2_with fail
          go_roundw
          case rel => exact ⟨k + 1, by omega, by go_num, by rw [HST.out]; exact K3.out, K4.out, HB5.out, HV5.out⟩
          case measure => simp [intOf]; omega
        · have hk' : k = L := by omega
          have hab2 := hab
          rw [List.take_of_length_le (by rw [HL.out]; omega), HTW.out] at hab2
          have ha : a = n := (congrArg Prod.fst hab2).symm
          have hbb : b = d := (congrArg Prod.snd hab2).symm
          subst ha
          subst hbb
          have HPP := Lib.hid hp; have HQQ := Lib.hid hq; have HBR := Lib.hid hbr
          clear hp hq hbr hvr hab hab2
          go_wp2_with fail
          refine (tfit_calls _ _ _ HOK.out).mono ?_
          rintro e w3 ⟨rfl, hb3⟩
          have k2 := HQQ.out.below hb3
          have hlt3 := k2.lt
          have hb03 := HBR.out.trans (hb3.mono HBR.out.size)
          have HB03 := Lib.hid hb03
          clear hb03 hb3 p0 p1 e0 e1 q0 q1 g0 g1
          have q0 := k2.cell0; have q1 := k2.cell1; have g0 := k2.free0; have g1 := k2.free1
          clear k2
          go_wp2_with fail
          exact bodyPost_ret (v := .tuple #[.agg #[.int .i64 a, .int .i64 b], .int .i64 0]) (by simp [results, Try.results55, go_sem, q0, q1, hlt3]) rfl ⟨a, b, 0, rfl, .inr (.inr ⟨by omega, HBIG.out, rfl, rfl, rfl⟩), (HB03.out.setCell (by simp) _).setCell (by simp) _⟩
end Go.Proofs.Ytpnbkoihglppnaa

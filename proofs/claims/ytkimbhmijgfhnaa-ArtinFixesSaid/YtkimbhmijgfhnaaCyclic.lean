/- freegroup.cyclic, turned, Root walked. -/
import Derived.Test.YtkimbhmijgfhnaaRootLaw
import Derived.Test.YtkimbhmijgfhnaaWords
import Derived.Test.YtkimbhmijgfhnaaConcat
import Derived.Test.YtkimbhmijgfhnaaClip
import Derived.Deep.RegionHeld3
namespace Go.Proofs.Ytkimbhmijgfhnaa
open Go.RowKit Go.Sl

set_option maxHeartbeats 2000000 in
set_option maxRecDepth 100000 in
theorem cyclic_calls (a : Value) (xs : List Int) (w : World) (ha : Ints w a xs) (hx : IsWord xs) (hl : xs.length ≤ 60) :
    Calls Try.prog 92 #[a] w fun e w' => ∃ c u, e = .returned (.tuple #[c, u]) ∧ OwnI w' w.heap.size c (coreL (redL xs)) ∧ OwnI w' w.heap.size u (headL (redL xs)) ∧ Below w.heap.size w w' := by
  have sa := ha.isSl
  obtain ⟨R, hR⟩ : ∃ R, R = redL xs := ⟨_, rfl⟩
  have hrl : R.length ≤ 60 := by rw [hR]; exact Nat.le_trans (redL_length xs) hl
  have hrw : IsWord R := by rw [hR]; exact hx.red
  have HA := Lib.hid ha; have HX := Lib.hid hx; have HL := Lib.hid hl; have HR := Lib.hid hR; have HRW := Lib.hid hrw
  rw [← hR]
  clear ha hx hl hR hrw
  go_enter Try.func92, Try.ntmps92
  go_wp2_with fail
  refine (reduced_calls _ [a] [xs] _ (rowsV_1 HA.out) (by intro zs hz; simp at hz; subst hz; exact HX.out.small) (by have := HL.out; simp; omega)).mono ?_
  rintro e w1 ⟨c, rfl, hc, hb1⟩
  simp only [List.flatten_cons, List.flatten_nil, List.append_nil] at hc
  rw [← HR.out] at hc
  have hb1' := Below.chain ((Below.refl _ _).alloc (Nat.le_refl _) _) hb1
  have hc' := hc.low (show w.heap.size ≤ _ by simp)
  have sc := hc.isSl
  have lc := hc.len
  obtain ⟨n, hn⟩ : ∃ n, R.length = n := ⟨_, rfl⟩
  rw [hn] at lc hrl
  have HC := Lib.hid hc'; have HB1 := Lib.hid hb1'; have HN := Lib.hid hn
  have hcap := hc.ints.cap
  rw [hn] at hcap
  clear hc hc' hb1 hb1' hn
  go_wp2_with fail
  go_loopw [5] (fun i wr => ∃ k : Nat, 2 * k ≤ n ∧ i = .int .i64 k ∧ stripGo R (n - k) k = stripN R ∧ Below w1.heap.size w1 wr) (fun i _ => n - (intOf i).toNat)
  case atStart => exact ⟨0, by omega, rfl, by unfold stripN; rw [HN.out]; rfl, Below.refl _ _⟩
  case round =>
    obtain ⟨k, hk, rfl, hst, hbr⟩ := hrel
    have HST := Lib.hid hst; have HBR := Lib.hid hbr
    clear hst hbr
    have hstep : stripGo R (n - k) k = if 2 * k + 2 ≤ n ∧ nth R k = -(nth R (n - 1 - k)) then stripGo R (n - (k + 1)) (k + 1) else k := by
      by_cases h0 : n - k = 0
      · rw [h0, stripGo, if_neg (by omega)]
      · obtain ⟨f, hf⟩ : ∃ f, n - k = f + 1 := ⟨n - k - 1, by omega⟩
        rw [hf, stripGo, HN.out, show n - (k + 1) = f by omega]
    have HSTEP := Lib.hid hstep; clear hstep
    by_cases h2 : 2 * k + 2 ≤ n
    · have hi2 : (n : Int) - 2 * (k : Int) ≥ 2 := by omega
      obtain ⟨j, hj⟩ : ∃ j, j = n - 1 - k := ⟨_, rfl⟩
      have hji : (n : Int) - 1 - (k : Int) = (j : Int) := by omega
      have hkn : k < n := by omega
      have hjn : j < n := by omega
      have c1 := (HC.out.below HBR.out).cell (k := k) (by rw [HN.out]; exact hkn)
      have c2 := (HC.out.below HBR.out).cell (k := j) (by rw [HN.out]; exact hjn)
      obtain ⟨x, hx⟩ : ∃ x, nth R k = x := ⟨_, rfl⟩
      obtain ⟨y, hy⟩ : ∃ y, nth R j = y := ⟨_, rfl⟩
      have hyb := HRW.out _ (nth_mem (show j < R.length by rw [HN.out]; exact hjn))
      rw [hx] at c1
      rw [hy] at c2 hyb
      have hy1 : -6 ≤ y := hyb.2.1
      have hy2 : y ≤ 6 := hyb.2.2
      by_cases he : x = -y
      · have hee : (x == -y) = true := by simp [he]
        have hnx : stripGo R (n - (k + 1)) (k + 1) = stripN R := by rw [← HST.out, HSTEP.out, if_pos ⟨h2, by rw [hx, ← hj, hy, he]⟩]
        have HNX := Lib.hid hnx
        clear hnx he hx hy hj hyb
        go_wp2_with fail
        go_quiet (fail)
        go_wp2_with fail
        go_roundw
        case rel => exact ⟨k + 1, by omega, by go_num, HNX.out, HBR.out.trans ((Below.drawn _).mono HBR.out.size)⟩
        case measure => simp [intOf]; omega
      · have hee : (x == -y) = false := by simp [he]
        have hnx : stripN R = k := by rw [← HST.out, HSTEP.out, if_neg (fun h => he (by rw [← hx, ← hy, hj]; exact h.2))]
        have HNX := Lib.hid hnx
        clear hnx he hx hy hj hyb
        go_wp2_with fail
        go_quiet (fail)
        have hc := HC.out.below (HBR.out.trans ((Below.drawn nq).mono HBR.out.size))
        have hbw : Below w.heap.size w (wr.drewN nq) := HB1.out.trans ((HBR.out.trans ((Below.drawn nq).mono HBR.out.size)).mono HB1.out.size)
        generalize wr.drewN nq = W at hc hbw ⊢
        obtain ⟨r, hr⟩ : ∃ r, r = n - k := ⟨_, rfl⟩
        have hri : (n : Int) - (k : Int) = (r : Int) := by omega
        have hkr : k ≤ r := by omega
        have hrn : r ≤ n := by omega
        have hrc : r ≤ vcap c := by omega
        have hkc : k ≤ vcap c := by omega
        have w38 : IntKind.i64.wrap (r : Int) = (r : Int) := IntWalk.i64_in _ (by omega)
        have q1 : (0 : Int) ≤ (k : Int) := by omega
        have q2 : (k : Int) ≤ (r : Int) := by omega
        have q3 : (r : Int) ≤ (vcap c : Int) := by omega
        have q4 : (k : Int) ≤ (vcap c : Int) := by omega
        have q5 : ¬ (r : Int) < (k : Int) := by omega
        have q6 : ¬ (vcap c : Int) < (r : Int) := by omega
        have q7 : ¬ vcap c < r := by omega
        have q8 : ¬ r < k := by omega
        have hcore : ∀ W', OwnI W' w.heap.size c R → Ints W' (vcut c k r (vcap c) 1) (coreL R) := fun W' h => by
          have h1 := h.ints.cut (l := k) (r := r) (m := vcap c) hkr (by rw [HN.out]; exact hrn) hrc (Nat.le_refl _)
          have e : coreL R = (R.drop k).take (r - k) := by unfold coreL; rw [HNX.out, HN.out, hr]
          rw [e]; exact h1
        have hhead : ∀ W', OwnI W' w.heap.size c R → Ints W' (vcut c 0 k (vcap c) 1) (headL R) := fun W' h => by
          have h1 := h.ints.cut (l := 0) (r := k) (m := vcap c) (Nat.zero_le _) (by rw [HN.out]; omega) hkc (Nat.le_refl _)
          have e : headL R = (R.drop 0).take (k - 0) := by unfold headL; rw [HNX.out]; simp
          rw [e]; exact h1
        have hl1 : (coreL R).length ≤ 1000000 := by unfold coreL; rw [List.length_take, List.length_drop, HN.out]; omega
        have hl2 : (headL R).length ≤ 1000000 := by unfold headL; rw [List.length_take, HN.out]; omega
        have HCORE := Lib.hid hcore; have HHEAD := Lib.hid hhead; have HL1 := Lib.hid hl1; have HL2 := Lib.hid hl2
        clear hcore hhead hl1 hl2 hr
        have s1 := (HCORE.out _ hc).isSl
        have s2 := (HHEAD.out _ hc).isSl
        have hb : Below W.heap.size W W.drew := (Below.refl _ _).drew
        replace hc := hc.below hb
        replace hbw := Below.chain hbw hb
        clear hb
        go_wp2_with fail
        go_region_held3 (fun _ => True) (exact trivial)
          (first
            | (go_at_call 49; refine (clone_calls (vcut c k r (vcap c) 1) (coreL R) _ (HCORE.out _ hc) HL1.out).mono ?_; rintro e w' ⟨va, rfl, hva, hb⟩; replace hc := hc.below hb; have hA := hva.low hbw.size; replace hbw := Below.chain hbw hb; (try replace hB := hB.below hb); (try replace hB2 := hB2.below hb); have sA := hA.isSl; clear hva hb)
            | (go_at_call 49; refine (clone_calls (vcut c 0 k (vcap c) 1) (headL R) _ (HHEAD.out _ hc) HL2.out).mono ?_; rintro e w' ⟨vb, rfl, hvb, hb⟩; replace hc := hc.below hb; have hB := hvb.low hbw.size; replace hbw := Below.chain hbw hb; (try replace hA := hA.below hb); (try replace hA2 := hA2.below hb); have sB := hB.isSl; clear hvb hb)
            | (go_at_call 82; refine (clip_calls va (coreL R) w.heap.size _ hA).mono ?_; rintro e w' ⟨rfl, va2, rfl, hA2⟩; have sA2 := hA2.isSl)
            | (go_at_call 82; refine (clip_calls vb (headL R) w.heap.size _ hB).mono ?_; rintro e w' ⟨rfl, vb2, rfl, hB2⟩; have sB2 := hB2.isSl)
            | fail "arm")
        all_goals
          go_wp2_with fail
          go_ret2
          exact ⟨_, _, rfl, hA2, hB2, hbw⟩
    · have hi2 : ¬ (n : Int) - 2 * (k : Int) ≥ 2 := by omega
      have hnx : stripN R = k := by rw [← HST.out, HSTEP.out, if_neg (fun h => h2 h.1)]
      have HNX := Lib.hid hnx
      clear hnx
      have hd1 : decide ((2 : Int) ≤ (n : Int) - 2 * (k : Int)) = false := decide_eq_false (by omega)
      have hd2 : decide ((n : Int) - 2 * (k : Int) ≥ 2) = false := decide_eq_false (by omega)
      clear hi2
      go_wp2_with fail
      go_quiet (fail)
      have hc := HC.out.below (HBR.out.trans ((Below.drawn nq).mono HBR.out.size))
      have hbw : Below w.heap.size w (wr.drewN nq) := HB1.out.trans ((HBR.out.trans ((Below.drawn nq).mono HBR.out.size)).mono HB1.out.size)
      generalize wr.drewN nq = W at hc hbw ⊢
      obtain ⟨r, hr⟩ : ∃ r, r = n - k := ⟨_, rfl⟩
      have hri : (n : Int) - (k : Int) = (r : Int) := by omega
      have hkr : k ≤ r := by omega
      have hrn : r ≤ n := by omega
      have hrc : r ≤ vcap c := by omega
      have hkc : k ≤ vcap c := by omega
      have w38 : IntKind.i64.wrap (r : Int) = (r : Int) := IntWalk.i64_in _ (by omega)
      have q1 : (0 : Int) ≤ (k : Int) := by omega
      have q2 : (k : Int) ≤ (r : Int) := by omega
      have q3 : (r : Int) ≤ (vcap c : Int) := by omega
      have q4 : (k : Int) ≤ (vcap c : Int) := by omega
      have q5 : ¬ (r : Int) < (k : Int) := by omega
      have q6 : ¬ (vcap c : Int) < (r : Int) := by omega
      have q7 : ¬ vcap c < r := by omega
      have q8 : ¬ r < k := by omega
      have hcore : ∀ W', OwnI W' w.heap.size c R → Ints W' (vcut c k r (vcap c) 1) (coreL R) := fun W' h => by
        have h1 := h.ints.cut (l := k) (r := r) (m := vcap c) hkr (by rw [HN.out]; exact hrn) hrc (Nat.le_refl _)
        have e : coreL R = (R.drop k).take (r - k) := by unfold coreL; rw [HNX.out, HN.out, hr]
        rw [e]; exact h1
      have hhead : ∀ W', OwnI W' w.heap.size c R → Ints W' (vcut c 0 k (vcap c) 1) (headL R) := fun W' h => by
        have h1 := h.ints.cut (l := 0) (r := k) (m := vcap c) (Nat.zero_le _) (by rw [HN.out]; omega) hkc (Nat.le_refl _)
        have e : headL R = (R.drop 0).take (k - 0) := by unfold headL; rw [HNX.out]; simp
        rw [e]; exact h1
      have hl1 : (coreL R).length ≤ 1000000 := by unfold coreL; rw [List.length_take, List.length_drop, HN.out]; omega
      have hl2 : (headL R).length ≤ 1000000 := by unfold headL; rw [List.length_take, HN.out]; omega
      have HCORE := Lib.hid hcore; have HHEAD := Lib.hid hhead; have HL1 := Lib.hid hl1; have HL2 := Lib.hid hl2
      clear hcore hhead hl1 hl2 hr
      have s1 := (HCORE.out _ hc).isSl
      have s2 := (HHEAD.out _ hc).isSl
      have hb : Below W.heap.size W W.drew := (Below.refl _ _).drew
      replace hc := hc.below hb
      replace hbw := Below.chain hbw hb
      clear hb
      go_wp2_with fail
      go_region_held3 (fun _ => True) (exact trivial)
        (first
          | (go_at_call 49; refine (clone_calls (vcut c k r (vcap c) 1) (coreL R) _ (HCORE.out _ hc) HL1.out).mono ?_; rintro e w' ⟨va, rfl, hva, hb⟩; replace hc := hc.below hb; have hA := hva.low hbw.size; replace hbw := Below.chain hbw hb; (try replace hB := hB.below hb); (try replace hB2 := hB2.below hb); have sA := hA.isSl; clear hva hb)
          | (go_at_call 49; refine (clone_calls (vcut c 0 k (vcap c) 1) (headL R) _ (HHEAD.out _ hc) HL2.out).mono ?_; rintro e w' ⟨vb, rfl, hvb, hb⟩; replace hc := hc.below hb; have hB := hvb.low hbw.size; replace hbw := Below.chain hbw hb; (try replace hA := hA.below hb); (try replace hA2 := hA2.below hb); have sB := hB.isSl; clear hvb hb)
          | (go_at_call 82; refine (clip_calls va (coreL R) w.heap.size _ hA).mono ?_; rintro e w' ⟨rfl, va2, rfl, hA2⟩; have sA2 := hA2.isSl)
          | (go_at_call 82; refine (clip_calls vb (headL R) w.heap.size _ hB).mono ?_; rintro e w' ⟨rfl, vb2, rfl, hB2⟩; have sB2 := hB2.isSl)
          | fail "arm")
      all_goals
        go_wp2_with fail
        go_ret2
        exact ⟨_, _, rfl, hA2, hB2, hbw⟩

end Go.Proofs.Ytkimbhmijgfhnaa

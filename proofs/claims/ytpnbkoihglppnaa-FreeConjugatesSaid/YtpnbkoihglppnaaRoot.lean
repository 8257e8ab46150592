/- freegroup.turned and Root walked. -/
import Derived.Test.YtpnbkoihglppnaaCyclic
namespace Go.Proofs.Ytpnbkoihglppnaa
open Go.RowKit Go.Sl

set_option maxRecDepth 100000 in
theorem turned_calls (a : Value) (xs : List Int) (k : Nat) (w : World) (ha : Ints w a xs) (hk : k ≤ xs.length) (hl : xs.length ≤ 1000) :
    Calls Try.prog 106 #[a, .int .i64 k] w fun e w' => ∃ v, e = .returned v ∧ OwnI w' w.heap.size v (xs.drop k ++ xs.take k) ∧ Below w.heap.size w w' := by
  have sa := ha.isSl
  have la := ha.len
  have hcap := ha.cap
  obtain ⟨n, hn⟩ : ∃ n, xs.length = n := ⟨_, rfl⟩
  rw [hn] at hk hl la hcap
  have hkc : k ≤ vcap a := by omega
  have h1 : Ints w (vcut a k n (vcap a) 1) (xs.drop k) := by
    have := ha.cut (l := k) (r := n) (m := vcap a) hk (by omega) hcap (Nat.le_refl _)
    rwa [List.take_of_length_le (by simp; omega)] at this
  have h2 : Ints w (vcut a 0 k (vcap a) 1) (xs.take k) := by
    have := ha.cut (l := 0) (r := k) (m := vcap a) (Nat.zero_le _) (by omega) hkc (Nat.le_refl _)
    simpa using this
  have s1 := h1.isSl
  have s2 := h2.isSl
  have hfl : [xs.drop k, xs.take k].flatten.length ≤ 100000 := by simp; omega
  have hb0 : Below w.heap.size w w.drew := (Below.refl _ _).drew
  have H1 := Lib.hid (h1.below hb0); have H2 := Lib.hid (h2.below hb0); have HFL := Lib.hid hfl; have HB0 := Lib.hid hb0
  clear ha hn h1 h2 hfl hb0
  go_enter Try.func106, Try.ntmps106
  go_wp2_with fail
  go_region_held3 (fun _ => True) (exact trivial)
    (first
      | (go_at_call 20; refine (concat_calls _ [vcut a k n (vcap a) 1, vcut a 0 k (vcap a) 1] [xs.drop k, xs.take k] _ (rowsV_2 H1.out H2.out) HFL.out).mono ?_; rintro e w' ⟨v, rfl, hv, hb⟩; have sv := hv.isSl)
      | fail "arm")
  all_goals
    simp only [List.flatten_cons, List.flatten_nil, List.append_nil] at hv
    have HV := Lib.hid (hv.low (show w.heap.size ≤ _ by simp))
    have HBB := Lib.hid (Below.chain HB0.out (Below.chain ((Below.refl _ _).alloc (Nat.le_refl _) _) hb))
    clear hv hb
    go_wp2_with fail
    go_ret
    exact ⟨_, rfl, HV.out, HBB.out⟩

theorem sl_three (w : World) (u v x : Value) (e : TypeId) : Sl (w.alloc (.cells #[u, v, x] e)) (.slice (some ⟨w.heap.size, 0, none⟩) 3 3) 1 [u, v, x] := by
  refine ⟨isSl_mk _ _ _ _ (Nat.le_refl _) (by unfold maxLen; omega), by simp, fun j y hj => ?_⟩
  match j, hj with
  | 0, hj =>
    simp at hj; subst hj
    exact cell_of_row (w.alloc (.cells #[u, v, x] e)) w.heap.size 0 #[u, v, x] e (0, 0) (heap_alloc_new w (.cells #[u, v, x] e))
  | 1, hj =>
    simp at hj; subst hj
    exact cell_of_row (w.alloc (.cells #[u, v, x] e)) w.heap.size 1 #[u, v, x] e (0, 0) (heap_alloc_new w (.cells #[u, v, x] e))
  | 2, hj =>
    simp at hj; subst hj
    exact cell_of_row (w.alloc (.cells #[u, v, x] e)) w.heap.size 2 #[u, v, x] e (0, 0) (heap_alloc_new w (.cells #[u, v, x] e))
  | j + 3, hj => simp at hj
theorem rowsV_3 {w : World} {u v x : Value} {xs ys zs : List Int} (h : Ints w u xs) (k : Ints w v ys) (l : Ints w x zs) : RowsV (w.alloc (.cells #[u, v, x] 22)) (.slice (some ⟨w.heap.size, 0, none⟩) 3 3) [u, v, x] [xs, ys, zs] := by
  refine ⟨sl_three w u v x _, rfl, fun i hi => ?_⟩
  simp only [List.length_cons, List.length_nil] at hi
  rcases (show i = 0 ∨ i = 1 ∨ i = 2 by omega) with rfl | rfl | rfl
  · exact h.alloc _
  · exact k.alloc _
  · exact l.alloc _

theorem cond_last {e : List Int} (h : 0 < e.length) : Cond e e.length := by
  unfold Cond
  rw [Nat.mod_self]
  simp
theorem isWord_mem {xs ys : List Int} (h : IsWord xs) (hs : ∀ y ∈ ys, y ∈ xs) : IsWord ys := fun y hy => h y (hs y hy)
theorem head_mem {c : List Int} : ∀ y ∈ headL c, y ∈ c := fun y hy => List.mem_of_mem_take hy
theorem core_mem {c : List Int} : ∀ y ∈ coreL c, y ∈ c := fun y hy => List.mem_of_mem_drop (List.mem_of_mem_take hy)
theorem parts_length (c : List Int) : 2 * (headL c).length + (coreL c).length = c.length := by
  have h := congrArg List.length (strip_parts c)
  rw [List.length_append, List.length_append, invL_length'] at h
  omega

set_option maxHeartbeats 4000000 in
set_option maxRecDepth 100000 in
theorem root_calls (a : Value) (xs : List Int) (w : World) (ha : Ints w a xs) (hx : IsWord xs) (hl : xs.length ≤ 60) :
    Calls Try.prog 57 #[a] w fun e w' => (redL xs = [] ∧ e = .returned (.tuple #[.slice none 0 0, .int .i64 0, .int .i64 4]) ∨ ∃ (k : Nat) (v : Value), e = .returned (.tuple #[v, .int .i64 ((coreL (redL xs)).length / k : Nat), .int .i64 0]) ∧ IsRoot (coreL (redL xs)) k ∧
      OwnI w' w.heap.size v (redL (headL (redL xs) ++ (coreL (redL xs)).take k ++ invL (headL (redL xs))))) ∧ Below w.heap.size w w' := by
  have sa := ha.isSl
  obtain ⟨R, hR⟩ : ∃ R, R = redL xs := ⟨_, rfl⟩
  have hrl : R.length ≤ 60 := by rw [hR]; exact Nat.le_trans (redL_length xs) hl
  have hrw : IsWord R := by rw [hR]; exact hx.red
  have hrd : Rd R := by rw [hR]; exact redL_rd xs
  have hpl := parts_length R
  obtain ⟨C, hC⟩ : ∃ C, C = coreL R := ⟨_, rfl⟩
  obtain ⟨U, hU⟩ : ∃ U, U = headL R := ⟨_, rfl⟩
  have hwc : IsWord C := by rw [hC]; exact isWord_mem hrw core_mem
  have hwu : IsWord U := by rw [hU]; exact isWord_mem hrw head_mem
  have hne : R ≠ [] → C ≠ [] := fun h => by rw [hC]; exact core_ne hrd h
  rw [← hC, ← hU] at hpl
  have HA := Lib.hid ha; have HX := Lib.hid hx; have HL := Lib.hid hl; have HR := Lib.hid hR; have HWC := Lib.hid hwc; have HWU := Lib.hid hwu; have HC := Lib.hid hC; have HU := Lib.hid hU; have HNE := Lib.hid hne
  rw [← hR, ← hC, ← hU]
  obtain ⟨L, hLL⟩ : ∃ L, C.length = L := ⟨_, rfl⟩
  rw [hLL] at hpl ⊢
  have hL60 : L ≤ 60 := by omega
  have hU60 : U.length ≤ 60 := by omega
  have HLL := Lib.hid hLL
  have HPL := Lib.hid hpl
  clear ha hx hl hR hrw hrd hC hU hwc hwu hne hLL hpl
  go_enter Try.func57, Try.ntmps57
  go_wp2_with fail
  refine (fcheck_calls a xs _ HA.out HX.out HL.out).mono ?_
  rintro e w' ⟨rfl, rfl⟩
  go_wp2_with fail
  refine (cyclic_calls a xs _ HA.out HX.out HL.out).mono ?_
  rw [← HR.out, ← HC.out, ← HU.out]
  rintro e w1 ⟨c, u, rfl, hc, hu, hb1⟩
  have sc := hc.isSl
  have su := hu.isSl
  have lc := hc.len
  rw [HLL.out] at lc
  have hcap := hc.ints.cap
  rw [HLL.out] at hcap
  have HCC := Lib.hid hc.ints; have HUU := Lib.hid hu.ints; have HB1 := Lib.hid hb1
  clear hc hu hb1
  go_wp2_with fail
  go_loopw [8] (fun i wr => ∃ k : Nat, 1 ≤ k ∧ k ≤ L + 1 ∧ i = .int .i64 k ∧ (∀ k', 0 < k' → k' < k → ¬ Cond C k') ∧ Below w1.heap.size w1 wr) (fun i _ => L + 1 - (intOf i).toNat)
  case atStart => exact ⟨1, Nat.le_refl _, by omega, rfl, fun k' h1 h2 => by omega, Below.refl _ _⟩
  case round =>
    obtain ⟨k, hk1, hk2, rfl, hno, hbr⟩ := hrel
    have HNO := Lib.hid hno; have HBR := Lib.hid hbr
    clear hno hbr
    by_cases hle : k ≤ L
    · have hle' : (k : Int) ≤ (L : Int) := by omega
      obtain ⟨r, hr⟩ : ∃ r, L % k = r := ⟨_, rfl⟩
      have hrk : r < k := by rw [← hr]; exact Nat.mod_lt _ (by omega)
      have hr1 : (L : Int).tmod (k : Int) = (r : Int) := by rw [← hr]; rfl
      have hr2 : (L : Int) % (k : Int) = (r : Int) := by rw [← hr]; rfl
      have hk0 : ((k : Int) == 0) = false := by rw [beq_eq_false_iff_ne]; omega
      by_cases hd : r = 0
      · subst hd
        obtain ⟨q, hq⟩ : ∃ q, k % L = q := ⟨_, rfl⟩
        have hqL : q < L := by rw [← hq]; exact Nat.mod_lt _ (by omega)
        have hq1 : (k : Int).tmod (L : Int) = (q : Int) := by rw [← hq]; rfl
        have hq2 : (k : Int) % (L : Int) = (q : Int) := by rw [← hq]; rfl
        have hL0 : ((L : Int) == 0) = false := by rw [beq_eq_false_iff_ne]; omega
        have HQ := Lib.hid hq; have HRR := Lib.hid hr
        clear hq hr
        go_wp2_with fail
        refine (turned_calls c C q _ (HCC.out.below HBR.out) (by rw [HLL.out]; omega) (by rw [HLL.out]; omega)).mono ?_
        rintro e w3 ⟨tv, rfl, ht, hb3⟩
        have st := ht.isSl
        have HT := Lib.hid ht.ints; have HB3 := Lib.hid (Below.chain HBR.out hb3)
        clear ht hb3
        by_cases he : C.drop q ++ C.take q = C
        · have hroot : IsRoot C k := ⟨by omega, by rw [HLL.out]; exact hle, ⟨by rw [HLL.out]; exact HRR.out, by rw [HLL.out, HQ.out]; exact he⟩, HNO.out⟩
          have HROOT := Lib.hid hroot; have HE := Lib.hid he
          clear hroot he
          go_wp2_with fail
          refine (equal_yes tv c _ _ _ HT.out (HCC.out.below HB3.out) HE.out).mono ?_
          rintro e w4 ⟨rfl, hb4⟩
          have HB4 := Lib.hid (Below.chain HB3.out hb4); clear hb4
          have hkc : k ≤ vcap c := by omega
          have hcut : ∀ W', Ints W' c C → Ints W' (vcut c 0 k (vcap c) 1) (C.take k) := fun W' h => by
            have := h.cut (l := 0) (r := k) (m := vcap c) (Nat.zero_le _) (by rw [HLL.out]; exact hle) hkc (Nat.le_refl _)
            simpa using this
          have hsm : ∀ zs ∈ [U, C.take k, invL U], ∀ x ∈ zs, -1000 ≤ x ∧ x ≤ 1000 := by
            intro zs hz
            simp only [List.mem_cons, List.not_mem_nil, or_false] at hz
            rcases hz with rfl | rfl | rfl
            · exact HWU.out.small
            · exact fun x hx => HWC.out.small x (List.mem_of_mem_take hx)
            · exact HWU.out.inv.small
          have hlen : [U, C.take k, invL U].flatten.length ≤ 1000 := by
            simp only [List.flatten_cons, List.flatten_nil, List.append_nil, List.length_append, List.length_take, invL_length']; omega
          obtain ⟨m, hm⟩ : ∃ m, L / k = m := ⟨_, rfl⟩
          have hmL : m ≤ L := by rw [← hm]; exact Nat.div_le_self _ _
          have z1 : (L : Int).tdiv (k : Int) = (m : Int) := by rw [← hm]; rfl
          have z2 : (L : Int) / (k : Int) = (m : Int) := by rw [← hm]; rfl
          have z3 : IntKind.i64.wrap (m : Int) = (m : Int) := IntWalk.i64_in _ (by omega)
          have z4 : IntKind.i64.wrap ((L : Int) / (k : Int)) = (m : Int) := by rw [z2]; exact z3
          have z5 : IntKind.i64.wrap ((L : Int).tdiv (k : Int)) = (m : Int) := by rw [z1]; exact z3
          have z6 : ¬ (k : Int) = 0 := by omega
          have z7 : ¬ k = 0 := by omega
          have hbd : Below w4.heap.size w4 w4.drew := (Below.refl _ _).drew
          have hc := (HCC.out.below HB4.out).below hbd
          have hu := (HUU.out.below HB4.out).below hbd
          have hbb := Below.chain (Below.chain HB1.out HB4.out) hbd
          have s2 := (hcut _ hc).isSl
          have HCUT := Lib.hid hcut; have HSM := Lib.hid hsm; have HLEN := Lib.hid hlen; have HM := Lib.hid hm
          clear hcut hsm hlen hm hbd
          go_wp2_with fail
          go_region_held3 (fun _ => True) (exact trivial)
            (first
              | (go_at_call 73; refine (inverted_calls u U _ hu HWU.out.small (by omega)).mono ?_; rintro e w' ⟨iv, rfl, hi, hb⟩; replace hc := hc.below hb; replace hu := hu.below hb; replace hbb := Below.chain hbb hb; have si := hi.isSl; have hi2 := hi.ints; clear hi hb)
              | (go_at_call 107; refine (reduced_calls _ [u, vcut c 0 k (vcap c) 1, iv] [U, C.take k, invL U] _ (rowsV_3 hu (HCUT.out _ hc) hi2) HSM.out HLEN.out).mono ?_; rintro e w' ⟨v, rfl, hv, hb⟩; replace hb := Below.chain ((Below.refl _ _).alloc (Nat.le_refl _) _) hb; have hv2 := hv.low (show w.heap.size ≤ _ by have := hbb.size; simp; omega); replace hbb := Below.chain hbb hb; have sv := hv.isSl; clear hv hb)
              | fail "arm")
          all_goals
            simp only [List.flatten_cons, List.flatten_nil, List.append_nil] at hv2
            rw [← List.append_assoc] at hv2
            have HV2 := Lib.hid hv2; have HBB := Lib.hid hbb
            clear hv2 hbb
            go_wp2_with fail
            go_ret3
            exact ⟨.inr ⟨k, v, by rw [HM.out] <;> rfl, HROOT.out, HV2.out⟩, HBB.out⟩
        · have HE := Lib.hid he
          clear he
          go_wp2_with fail
          refine (equal_calls tv c _ _ _ HT.out (HCC.out.below HB3.out)).mono ?_
          rw [decide_eq_false HE.out]
          rintro e w4 ⟨rfl, hb4⟩
          have HB4 := Lib.hid (Below.chain HB3.out hb4); clear hb4
          go_wp2_with fail
          go_roundw
          case rel => exact ⟨k + 1, by omega, by omega, by go_num, fun k' h1 h2 hcon => by
            rcases Nat.lt_or_ge k' k with h3 | h3
            · exact HNO.out k' h1 h3 hcon
            · rw [show k' = k by omega] at hcon
              have := hcon.2
              rw [HLL.out, HQ.out] at this
              exact HE.out this, HB4.out⟩
          case measure => simp [intOf]; omega
      · have hd2 : ((r : Int) == 0) = false := by rw [beq_eq_false_iff_ne]; omega
        have HRR := Lib.hid hr
        clear hr
        go_wp2_with fail
        go_roundw
        case rel => exact ⟨k + 1, by omega, by omega, by go_num, fun k' h1 h2 hcon => by
          rcases Nat.lt_or_ge k' k with h3 | h3
          · exact HNO.out k' h1 h3 hcon
          · rw [show k' = k by omega] at hcon
            have := hcon.1
            rw [HLL.out, HRR.out] at this
            exact hd this, HBR.out⟩
        case measure => simp [intOf]; omega
    · have hle' : ¬ (k : Int) ≤ (L : Int) := by omega
      have hC0 : C = [] := by
        rcases Nat.eq_zero_or_pos L with h | h
        · exact List.length_eq_zero_iff.1 (by rw [HLL.out]; exact h)
        · exact absurd (by rw [← HLL.out]; exact cond_last (by rw [HLL.out]; exact h)) (HNO.out L h (by omega))
      have hR0 : R = [] := Classical.byContradiction fun h => HNE.out h hC0
      have HR0 := Lib.hid hR0
      clear hC0 hR0
      go_wp2_with fail
      go_ret3
      exact ⟨.inl ⟨HR0.out, rfl⟩, Below.chain HB1.out HBR.out⟩

end Go.Proofs.Ytpnbkoihglppnaa

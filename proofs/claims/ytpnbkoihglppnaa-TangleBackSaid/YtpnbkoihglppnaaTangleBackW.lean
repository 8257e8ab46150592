/- TangleBack: for every input the statement returns true, and nothing that was there has changed. -/
import Derived.Test.YtpnbkoihglppnaaTwists
import Derived.Test.YtpnbkoihglppnaaBackward
import Derived.Test.YtpnbkoihglppnaaTangleTurns
import Derived.Test.YtpnbkoihglppnaaInRound
namespace Go.Proofs.Ytpnbkoihglppnaa
open Go.RowKit Go.Sl
attribute [local go_sem] Oper.semAt_some

theorem tw_frac {n d : Int} (hok : FracOk n d) : twL (exL (if n < 0 then -1 else 1) n.natAbs d.natAbs).reverse = (n, d) := by
  have h0 := hok.d0
  by_cases hd : d = 0
  · have hn := hok.inf hd
    subst hd hn
    rfl
  · have hg := hok.gcd
    have := tw_ex (if n < 0 then -1 else 1) (by split; exact .inr rfl; exact .inl rfl) d.natAbs n.natAbs d.natAbs (Nat.le_refl _) (by omega) hg
    rw [this]
    split
    · congr 1 <;> omega
    · congr 1 <;> omega
theorem tw_all {n d : Int} (hok : FracOk n d) (hn : n.natAbs ≤ 999) (hd : d ≤ 999) : (∀ k, (twL ((exL (if n < 0 then -1 else 1) n.natAbs d.natAbs).reverse.take k)).1.natAbs ≤ 999 ∧ (twL ((exL (if n < 0 then -1 else 1) n.natAbs d.natAbs).reverse.take k)).2.natAbs ≤ 999) ∧ (∀ x ∈ (exL (if n < 0 then -1 else 1) n.natAbs d.natAbs).reverse, -999 ≤ x ∧ x ≤ 999) ∧ (exL (if n < 0 then -1 else 1) n.natAbs d.natAbs).reverse.length ≤ 999 := by
  have h0 := hok.d0
  have hs : (if n < 0 then (-1 : Int) else 1) = 1 ∨ (if n < 0 then (-1 : Int) else 1) = -1 := by split; exact .inr rfl; exact .inl rfl
  refine ⟨tw_bound _ hs 999 d.natAbs (by omega) n.natAbs d.natAbs (Nat.le_refl _) hn (by omega) (.inr hok.gcd), fun x hx => ?_, ?_⟩
  · have := exL_bound _ hs 999 d.natAbs n.natAbs d.natAbs (Nat.le_refl _) hn (by omega) x (List.mem_reverse.1 hx)
    omega
  · rw [List.length_reverse]
    have := exL_length (if n < 0 then -1 else 1) d.natAbs n.natAbs d.natAbs (Nat.le_refl _)
    omega
theorem downs_g' (xs : List Int) (g : Nat → Int) (hg : ∀ j, j < xs.length → g j = nth xs j) : (downs xs.length xs.length).map g = xs.reverse := by
  have h := downs_map xs id
  rw [List.map_id] at h
  rw [← h]
  refine List.map_congr_left fun j hj => ?_
  unfold downs at hj
  obtain ⟨m, hm, rfl⟩ := List.mem_map.1 hj
  have := List.mem_range.1 hm
  exact hg _ (by omega)
theorem pair_own {β : Type} (B : Nat) (t : TypeId) (x y : β → Value) : Go.Own (fun s W => Pair W B t (x s) (y s)) := fun s X Y row hs hg hrow => by
  have hlt := hs.lt
  refine (hg.block B hlt (fun e => ?_)).trans hs
  obtain ⟨o, ho, hc⟩ := hrow B e.symm
  rw [show X.heap[B]? = _ from hs] at ho
  cases ho
  cases hc

set_option maxRecDepth 100000 in
set_option maxHeartbeats 8000000 in
theorem tangleBack_true (a : Int) (ha : I64 a) (b : Int) (hb : I64 b) (w : World) :
    Calls Try.prog 12 #[.int .i64 a, .int .i64 b] w fun e w' => e = .returned (.bool true) ∧ Below w.heap.size w w' := by
  refine (callsIn_wide (n := 3)).1 ?_
  have hro : Fence.wide.round = none := rfl
  have i1 : 1 ≤ 3 := by omega
  refine callsIn_of_wp_marks Try.func12 rfl trivial ?_ hro
  simp only [Try.ntmps12, List.size_toArray, List.length_cons, List.length_nil, Nat.reduceAdd, Nat.reduceSub, Array.replicate_succ, Array.replicate_zero, List.push_toArray, List.append_toArray, List.nil_append, List.cons_append]
  refine wpIn_wide.2 ?_
  go_wp2_with fail
  refine (fraction_calls a b _ ha hb).mono ?_
  rintro e u1 ⟨n0, d0, rfl, hok0, hn0, hd01, hd02, hb1⟩
  have hus : w.heap.size ≤ u1.heap.size := hb1.size
  have HB1 := Lib.hid hb1; have HOK0 := Lib.hid hok0
  clear hb1 hok0
  go_wp2_with fail
  · obtain ⟨v1, hv1⟩ : ∃ v1, v1 = u1.alloc (.cells #[.int .i64 1, .int .i64 0] 68) := ⟨_, rfl⟩
    have hok : FracOk 1 0 := ⟨by decide, by decide, by decide, by decide, fun _ => rfl, by decide⟩
    have hlead := untL_leads _ 1 0 (Nat.le_refl _) hok (by decide) (by decide)
    have hshort := untL_short 10 1 0 hok.d0 (by have : (0 : Int) ≤ 999 := (by decide); omega)
    have hback := hlead.1.back
    obtain ⟨U, hU⟩ : ∃ U, U = untL 1 0 := ⟨_, rfl⟩
    rw [← hU] at hlead hshort hback
    have pf : Pair v1 u1.heap.size 68 (.int .i64 1) (.int .i64 0) := by rw [hv1]; exact pair_new _ _ _ _
    have HB : Below w.heap.size w v1 := by rw [hv1]; exact HB1.out.alloc hus _
    have hs1 : v1.heap.size = u1.heap.size + 1 := by rw [hv1]; simp
    rw [← hv1]
    have PF1 := Lib.hid pf; have HBB1 := Lib.hid HB; have HLEAD := Lib.hid hlead; have HBACK := Lib.hid hback; have HU := Lib.hid hU.symm; have HOK := Lib.hid hok; have HS1 := Lib.hid hs1
    have hU22 : U.length ≤ 22 := hshort
    clear hv1 pf HB hlead hback hU hok hshort hs1
    refine (untangle_calls 1 0 _ HOK.out).mono ?_
    rintro e u2 ⟨v, rfl, hv, hb2⟩
    rw [HU.out] at hv
    have sv := hv.isSl
    have lv := hv.len
    have pf2 := PF1.out.below hb2
    have c0 := pf2.cell0; have c1 := pf2.cell1
    have PF2 := Lib.hid pf2; have HBB2 := Lib.hid (Below.chain HBB1.out hb2); have HV2 := Lib.hid hv.ints
    have hlt2 : u1.heap.size < u2.heap.size := pf2.lt
    clear hv hb2 pf2
    obtain ⟨L, hL⟩ : ∃ L, U.length = L := ⟨_, rfl⟩
    have HL := Lib.hid hL
    rw [hL] at lv hU22
    clear hL
    go_wp2_with fail
    refine (apply_calls 1 0 v U _ HV2.out (by rw [HL.out]; omega) (fun k hk => by have := HLEAD.out.2 k hk; omega) HLEAD.out.1.2).mono ?_
    rw [HLEAD.out.1.1]
    rintro e u3 ⟨rfl, hb3⟩
    obtain ⟨v3, hv3⟩ : ∃ v3, v3 = u3.alloc (.cells #[.int .i64 0, .int .i64 1] 68) := ⟨_, rfl⟩
    have PF3 := Lib.hid (show Pair v3 _ _ _ _ by rw [hv3]; exact (PF2.out.below hb3).alloc _)
    have PG3 := Lib.hid (show Pair v3 u3.heap.size 68 (.int .i64 0) (.int .i64 1) by rw [hv3]; exact pair_new _ _ _ _)
    have HBB3 := Lib.hid (show Below w.heap.size w v3 by rw [hv3]; exact (Below.chain HBB2.out hb3).alloc (by have := HBB2.out.size; have := hb3.size; omega) _)
    have HV3 := Lib.hid (show Ints v3 v U by rw [hv3]; exact (HV2.out.below hb3).alloc _)
    have HW3 := Lib.hid hv3.symm
    have hs3 : v3.heap.size = u3.heap.size + 1 := by rw [hv3]; simp
    have hlt3 : u2.heap.size ≤ u3.heap.size := hb3.size
    have HS3 := Lib.hid hs3
    clear hb3 hv3 c0 c1
    go_wp2_with fail
    rw [HW3.out]
    refine (callsIn_wide.1 (backward_in Fence.wide 0 trivial hro _ sv _)).mono ?_
    rintro e w' ⟨rfl, rfl⟩
    go_wp2_with fail
    obtain ⟨W0, hW0⟩ : ∃ W0, W0 = (v3.alloc (.cells #[.slice none 0 0] 22)).alloc (.cells #[v] 22) := ⟨_, rfl⟩
    have bO : Boxed W0 v3.heap.size 22 (.slice none 0 0) := by rw [hW0]; exact (Boxed.new v3 22 (.slice none 0 0)).alloc _
    have bN : Boxed W0 (v3.heap.size + 1) 22 v := by
      rw [hW0]
      have := Boxed.new (v3.alloc (.cells #[.slice none 0 0] 22)) 22 v
      rwa [World.size_alloc] at this
    have hB3 : Below v3.heap.size v3 W0 := by rw [hW0]; exact ((Below.refl _ _).alloc (Nat.le_refl _) _).alloc (by simp) _
    have hs0 : W0.heap.size = v3.heap.size + 2 := by rw [hW0]; simp
    have pf0 := PF3.out.below hB3
    have pg0 := PG3.out.below hB3
    have hB0 : Below w.heap.size w W0 := Below.chain HBB3.out hB3
    have hws : w.heap.size ≤ u1.heap.size := hus
    rw [← hW0]
    have HW0 := Lib.hid hW0; clear hW0
    rw [HS3.out] at bO bN hs0
    have HLE := HLEAD.out.2
    obtain ⟨g, hg⟩ : ∃ g : Nat → Int, g = fun j => U.getD j 1 := ⟨_, rfl⟩
    have hg1 : ∀ j, j < U.length → g j = nth U j := fun j hj => by rw [hg]; simp [nth, hj]
    have hg2 : ∀ j, -1000 ≤ g j ∧ g j ≤ 1000 := fun j => by
      rcases Nat.lt_or_ge j U.length with h | h
      · rw [hg1 j h]; exact HLE _ (nth_mem h)
      · rw [hg]; simp [List.getElem?_eq_none h]
    have HG1 := Lib.hid hg1; have HG2 := Lib.hid hg2; clear hg hg1 hg2 HLE
    obtain ⟨it, hit, hz0, hz1, hz2⟩ := info_parts info_int
    have hn3 : v3.heap.size ≤ W0.heap.size := hB3.size
    rw [HS3.out] at hn3
    refine (wpIn_wide (n := 3)).1 ?_
    refine wpIn_rangeFunc_ownG hro i1 (gf := 98) (lb := #[.pointer (some ⟨u3.heap.size + 1 + 1, 0, none⟩)]) rfl trivial (enters_of Try.func98 (by kernel_rfl) rfl)
      (backward_stopsG Fence.wide (3 - 1) trivial hro (by omega) (u3.heap.size + 1 + 1) (u3.heap.size + 1) v U g HG1.out v3 _ HS3.out HV3.out (HS3.out ▸ hB3) (by omega) bN.cell) keepB_t (keepB_b (by omega) (by omega)) (Below.refl _ _) (fun _ => rfl)
      (fun pre W => (((((∃ x, Boxed W (u3.heap.size + 1) 22 x ∧ W.ownsRow (u3.heap.size + 1) 3 1 x pre.length ((pre.map fun j => -(g j)).map (Value.int .i64)) ∧ True) ∧ Boxed W (u3.heap.size + 1 + 1) 22 v) ∧ Pair W u1.heap.size 68 (.int .i64 1) (.int .i64 0)) ∧ Pair W u3.heap.size 68 (.int .i64 0) (.int .i64 1)) ∧ Below w.heap.size w W))
      (fun _ _ _ => False)
      (OwnFrom.and (OwnFrom.and (OwnFrom.and (OwnFrom.and (Go.Own.from (holdsRow_own (u3.heap.size + 1) (u3.heap.size + 1) 22 3 1 (fun pre : List Nat => pre.length) (fun pre => (pre.map fun j => -(g j)).map (Value.int .i64)) (fun pre v => True)) _) (Go.Own.from (boxed_own _ _ _) _)) (Go.Own.from (pair_own _ _ _ _) _)) (Go.Own.from (pair_own _ _ _ _) _)) (ownFrom_below (Nat.le_refl _) (by omega)))
      (fun _ _ _ _ _ hs _ _ => hs)
      ⟨⟨⟨⟨⟨_, bO, World.ownsRow_nil _ _ _ _, trivial⟩, bN⟩, pf0⟩, pg0⟩, hB0⟩
      (fun x => { tmps := #[Value.int .i64 a, .int .i64 b, undef, undef, .bool false, .pointer (some ⟨u1.heap.size, 0, none⟩), v, .int .i64 0, .pointer (some ⟨u3.heap.size, 0, none⟩), .int .i64 0, .pointer (some ⟨u3.heap.size + 1, 0, none⟩), undef, .int .i64 (g x), undef, undef, undef, undef, undef, undef, .int .i64 a, .int .i64 b, .agg #[.int .i64 n0, .int .i64 d0], .int .i64 a, .int .i64 (a.tmod 17), .bool true, .agg #[.int .i64 1, .int .i64 0], .tuple #[v, .int .i64 0], .agg #[.int .i64 1, .int .i64 0], .tuple #[v, .int .i64 0], v, .int .i64 0, .tuple #[.agg #[.int .i64 0, .int .i64 1], .int .i64 0], .agg #[.int .i64 1, .int .i64 0], v, .tuple #[.agg #[.int .i64 0, .int .i64 1], .int .i64 0], .agg #[.int .i64 0, .int .i64 1], .int .i64 0, v, .func (.func 98) #[] #[.pointer (some ⟨u3.heap.size + 1 + 1, 0, none⟩)], .int .i64 (x : Int), .int .i64 (g x), undef, undef, undef, undef, undef, undef, undef, undef, undef, undef, undef, undef, undef, undef, undef, undef, undef, undef, undef, undef, undef, undef, undef, undef, undef, undef, undef, undef, undef, undef, undef, undef, undef, undef, undef, undef, undef, undef, undef, undef, undef, undef, undef, undef, undef, undef, undef, undef, undef, undef, undef, undef, undef, undef, undef, undef, undef, undef, undef, undef, undef, undef, undef, undef, undef, undef, undef, undef, undef, undef, undef, undef, undef], defers := [] }) ?assign ?body ?done ?stop
    case assign =>
      intro l x W K hK
      gi_wp2
      exact hK
    case body =>
      rintro l pre x W ⟨⟨⟨⟨⟨y, hu, hrow, -⟩, hbx⟩, hpf⟩, hpg⟩, hB⟩ hlt
      have hc := hu.cell
      obtain ⟨c, hcx⟩ : ∃ c, c = g x := ⟨_, rfl⟩
      obtain ⟨hx1, hx2⟩ : -1000 ≤ c ∧ c ≤ 1000 := by rw [hcx]; exact HG2.out x
      simp only [← hcx]
      have HCX := Lib.hid hcx; clear hcx
      have hpl : pre.length < 23 := by have := HL.out; omega
      have hbw := hu.lt
      gi_wp2_with (gi_at_builtin; refine wpListIn_append_own _ rfl _ _ 22 rfl (u3.heap.size + 1) 3 it (.int .i64 0) 1 8 Try.underlying22 hit hz0 hz1 hz2 rfl (by decide) _ _ _ rfl (hrow.alloc _) ⟨W.heap.size, 0, none⟩ 1 1 [.int .i64 (-c)] rfl rfl (cell_one_new _ _ _) (by simp [Value.oneCell']) (by simp only [maxLen]; omega) (by omega) (by simp; omega) ?_; intro v' w1 hown' hgrow _; obtain ⟨g', cap', rfl⟩ := ownsRow_succ hown'; obtain ⟨hv1, hv2, hr2, hk2, hb2⟩ := hu.appended (by decide) hrow (by omega) (Nat.le_refl _) hown' hgrow; have hc1 := hv1.cell; have hf1 := hv1.frozen)
      have hk3 := box_kept (v' := .slice (some ⟨g', 0, none⟩) (pre.length + 1) cap') hbx (by decide) hrow hgrow (show u3.heap.size + 1 + 1 ≠ u3.heap.size + 1 by omega)
      exact ⟨hk2.from _, ⟨hb2, hk3⟩, ⟨⟨⟨⟨_, hv2, by have h2 := hr2; rw [HCX.out] at h2; simpa using h2, trivial⟩, hk3.trans hbx⟩, hpf.under hb2 (by omega)⟩, hpg.under hb2 (by omega)⟩, hB.trans (hb2.mono (by omega))⟩
    case done =>
      rintro D ys W hD rfl ⟨⟨⟨⟨⟨y, hu, hrow, -⟩, hbx⟩, hpf⟩, hpg⟩, hB⟩ hK
      have hown : Ints W y (U.reverse.map (fun x => -x)) := by
        have := own_of_row hrow
        rw [show (downs U.length U.length).map (fun j => -(g j)) = ((downs U.length U.length).map g).map (fun x => -x) by simp, downs_g' U g HG1.out] at this
        exact this.ints
      have hDl : D < W.heap.size := (Array.getElem?_eq_some_iff.1 hK).1
      have sy := hown.isSl
      have cy := hu.cell
      have HY := Lib.hid hown; have HPF := Lib.hid hpf; have HPG := Lib.hid hpg; have HBW := Lib.hid hB; have HK := Lib.hid hK
      clear hown hu hrow hbx hpf hpg hB hK
      gi_wp2
      go_wp2_with fail
      refine (apply_calls 0 1 y (U.reverse.map (fun x => -x)) _ HY.out (by have := HL.out; simp; omega) (fun k hk => by
        obtain ⟨z, hz, rfl⟩ := List.mem_map.1 hk
        have := HLEAD.out.2 z (List.mem_reverse.1 hz)
        omega) HBACK.out.2).mono ?_
      rw [HBACK.out.1]
      rintro e u5 ⟨rfl, hb5⟩
      have pf5 := HPF.out.below hb5
      have pf5l := pf5.lt
      have pf5c := pf5.cell0; have pf5d := pf5.cell1
      obtain ⟨v5, hv5⟩ : ∃ v5, v5 = u5.alloc (.cells #[.int .i64 1, .int .i64 0] 68) := ⟨_, rfl⟩
      have PF5 := Lib.hid (show Pair v5 _ _ _ _ by rw [hv5]; exact pf5.alloc _)
      have PG5 := Lib.hid (show Pair v5 _ _ _ _ by rw [hv5]; exact (HPG.out.below hb5).alloc _)
      have PH5 := Lib.hid (show Pair v5 u5.heap.size 68 (.int .i64 1) (.int .i64 0) by rw [hv5]; exact pair_new _ _ _ _)
      have HD5 := Lib.hid (show Below W.heap.size W v5 by rw [hv5]; exact hb5.alloc hb5.size _)
      have HB5 := Lib.hid (Below.chain HBW.out HD5.out)
      have HV5 := Lib.hid hv5.symm
      clear hb5 hv5 pf5
      go_wp2_with fail
      rw [HV5.out]
      refine (expand_calls 1 0 _ HOK.out (by decide) (by decide)).mono ?_
      rintro e u6 ⟨c, rfl, hc, hb6⟩
      have hta := tw_all HOK.out (by decide) (by decide)
      have htf := tw_frac HOK.out
      obtain ⟨C, hC⟩ : ∃ C, C = (exL (if (1 : Int) < 0 then -1 else 1) (1 : Int).natAbs (0 : Int).natAbs).reverse := ⟨_, rfl⟩
      rw [← hC] at hc hta htf
      have sc := hc.isSl
      have lc := hc.len
      obtain ⟨K, hKl⟩ : ∃ K, C.length = K := ⟨_, rfl⟩
      rw [hKl] at lc
      have hK999 : K ≤ 999 := by rw [← hKl]; exact hta.2.2
      have HTA := Lib.hid hta; have HTF := Lib.hid htf; have HKL := Lib.hid hKl; have HC := Lib.hid hc.ints
      have PF6 := Lib.hid (PF5.out.below hb6); have PG6 := Lib.hid (PG5.out.below hb6); have PH6 := Lib.hid (PH5.out.below hb6)
      have HD6 := Lib.hid (Below.chain HD5.out hb6)
      clear hta htf hKl hC hc hb6
      go_wp2_with fail
      refine (rational_calls _).mono ?_
      rintro e u7 ⟨rfl, hb7⟩
      have HC7 := Lib.hid (HC.out.below hb7)
      have PF7 := Lib.hid (PF6.out.below hb7); have PG7 := Lib.hid (PG6.out.below hb7); have PH7 := Lib.hid (PH6.out.below hb7)
      have HD7 := Lib.hid (Below.chain HD6.out hb7)
      clear hb7
      have x0 := PF7.out.cell0; have x1 := PF7.out.cell1; have x2 := PG7.out.cell0; have x3 := PG7.out.cell1; have x4 := PH7.out.cell0; have x5 := PH7.out.cell1
      go_wp2_with fail
      refine (fromTwists_calls c C 1 0 _ HC7.out HOK.out HTF.out HTA.out.1 HTA.out.2.1 HTA.out.2.2).mono ?_
      rw [HKL.out]
      rintro e u8 ⟨p, q, er, rfl, hcase, hb8⟩
      have pf8 := PF7.out.below hb8
      have hc8 := HC7.out.below hb8
      clear x0 x1 x2 x3 x4 x5
      have y0 := pf8.cell0; have y1 := pf8.cell1
      have hlt8 := pf8.lt
      have HD8 := Lib.hid (Below.chain HD7.out hb8)
      obtain ⟨v8, hv8⟩ : ∃ v8, v8 = u8.alloc (.cells #[.int .i64 p, .int .i64 q] 68) := ⟨_, rfl⟩
      have pf9 : Pair v8 u1.heap.size 68 (.int .i64 1) (.int .i64 0) := by rw [hv8]; exact pf8.alloc _
      have pr9 : Pair v8 u8.heap.size 68 (.int .i64 p) (.int .i64 q) := by rw [hv8]; exact pair_new _ _ _ _
      have hc9 : Ints v8 c C := by rw [hv8]; exact hc8.alloc _
      have HD9 : Hid (Below W.heap.size W v8) := Lib.hid (by rw [hv8]; exact HD8.out.alloc HD8.out.size _)
      have hK9 : v8.heap[D]? = some (Obj.deferred (some [])) := (HD9.out.block D hDl).trans HK.out
      have HK9 := Lib.hid hK9
      have HBIG := Lib.hid (containsBig c C _ (twist_enters (Go.Proofs.enters_of Try.func56 (by kernel_rfl) rfl)) v8 hc9 (fun x hx => tb1_calls x v8 (HTA.out.2.1 x hx).1 (HTA.out.2.1 x hx).2))
      have HV8 := Lib.hid hv8.symm
      have HWD : W.heap.size ≤ D ∨ D < W.heap.size := by omega
      have HBF := Lib.hid (Below.chain HBW.out HD9.out)
      have z0 := pf9.cell0; have z1 := pf9.cell1; have z2 := pr9.cell0; have z3 := pr9.cell1
      have hDw : w.heap.size ≤ D := by omega
      clear hb8 hv8 pf8 hc8 hc9 pf9 pr9 hK9 HWD
      rcases hcase with ⟨h12, rfl⟩ | ⟨h12, hbig, rfl⟩ | ⟨h12, hbig, rfl, rfl, rfl⟩
      · have h12i : (12 : Int) < (K : Int) := by omega
        go_wp2_with fail
        rw [HV8.out]
        go_wp2_with fail
        refine ⟨by simp, .inl ⟨_, _, rfl, run_takeDeferred HK9.out, ?_⟩⟩
        exact ⟨_, results_tmp rfl _ _ _, rfl, HBF.out.trans (belowK_b (w := w) (Nat.le_refl _) v8 D _ _ hDw HK9.out rfl rfl)⟩
      · have h12i : ¬ (12 : Int) < (K : Int) := by omega
        rw [decide_eq_true hbig] at HBIG
        have HBG := Lib.hid hbig; clear hbig
        go_wp2_with fail
        rw [HV8.out]
        refine HBIG.out.mono ?_
        rintro e w' ⟨rfl, rfl⟩
        go_wp2_with fail
        refine ⟨by simp, .inl ⟨_, _, rfl, run_takeDeferred HK9.out, ?_⟩⟩
        exact ⟨_, results_tmp rfl _ _ _, rfl, HBF.out.trans (belowK_b (w := w) (Nat.le_refl _) v8 D _ _ hDw HK9.out rfl rfl)⟩
      · have h12i : ¬ (12 : Int) < (K : Int) := by omega
        rw [decide_eq_false hbig] at HBIG
        have HBG := Lib.hid hbig; clear hbig
        go_wp2_with fail
        rw [HV8.out]
        refine HBIG.out.mono ?_
        rintro e w' ⟨rfl, rfl⟩
        go_wp2_with fail
        refine ⟨by simp, .inl ⟨_, _, rfl, run_takeDeferred HK9.out, ?_⟩⟩
        exact ⟨_, results_tmp rfl _ _ _, rfl, HBF.out.trans (belowK_b (w := w) (Nat.le_refl _) v8 D _ _ hDw HK9.out rfl rfl)⟩
    case stop =>
      rintro D c pre W _ _ h _
      exact h.elim
  · obtain ⟨v1, hv1⟩ : ∃ v1, v1 = u1.alloc (.cells #[.int .i64 n0, .int .i64 d0] 68) := ⟨_, rfl⟩
    have hok : FracOk n0 d0 := HOK0.out
    have hlead := untL_leads _ n0 d0 (Nat.le_refl _) hok hn0 hd02
    have hshort := untL_short 10 n0 d0 hok.d0 (by have : (d0 : Int) ≤ 999 := hd02; omega)
    have hback := hlead.1.back
    obtain ⟨U, hU⟩ : ∃ U, U = untL n0 d0 := ⟨_, rfl⟩
    rw [← hU] at hlead hshort hback
    have pf : Pair v1 u1.heap.size 68 (.int .i64 n0) (.int .i64 d0) := by rw [hv1]; exact pair_new _ _ _ _
    have HB : Below w.heap.size w v1 := by rw [hv1]; exact HB1.out.alloc hus _
    have hs1 : v1.heap.size = u1.heap.size + 1 := by rw [hv1]; simp
    rw [← hv1]
    have PF1 := Lib.hid pf; have HBB1 := Lib.hid HB; have HLEAD := Lib.hid hlead; have HBACK := Lib.hid hback; have HU := Lib.hid hU.symm; have HOK := Lib.hid hok; have HS1 := Lib.hid hs1
    have hU22 : U.length ≤ 22 := hshort
    clear hv1 pf HB hlead hback hU hok hshort hs1
    refine (untangle_calls n0 d0 _ HOK.out).mono ?_
    rintro e u2 ⟨v, rfl, hv, hb2⟩
    rw [HU.out] at hv
    have sv := hv.isSl
    have lv := hv.len
    have pf2 := PF1.out.below hb2
    have c0 := pf2.cell0; have c1 := pf2.cell1
    have PF2 := Lib.hid pf2; have HBB2 := Lib.hid (Below.chain HBB1.out hb2); have HV2 := Lib.hid hv.ints
    have hlt2 : u1.heap.size < u2.heap.size := pf2.lt
    clear hv hb2 pf2
    obtain ⟨L, hL⟩ : ∃ L, U.length = L := ⟨_, rfl⟩
    have HL := Lib.hid hL
    rw [hL] at lv hU22
    clear hL
    go_wp2_with fail
    refine (apply_calls n0 d0 v U _ HV2.out (by rw [HL.out]; omega) (fun k hk => by have := HLEAD.out.2 k hk; omega) HLEAD.out.1.2).mono ?_
    rw [HLEAD.out.1.1]
    rintro e u3 ⟨rfl, hb3⟩
    obtain ⟨v3, hv3⟩ : ∃ v3, v3 = u3.alloc (.cells #[.int .i64 0, .int .i64 1] 68) := ⟨_, rfl⟩
    have PF3 := Lib.hid (show Pair v3 _ _ _ _ by rw [hv3]; exact (PF2.out.below hb3).alloc _)
    have PG3 := Lib.hid (show Pair v3 u3.heap.size 68 (.int .i64 0) (.int .i64 1) by rw [hv3]; exact pair_new _ _ _ _)
    have HBB3 := Lib.hid (show Below w.heap.size w v3 by rw [hv3]; exact (Below.chain HBB2.out hb3).alloc (by have := HBB2.out.size; have := hb3.size; omega) _)
    have HV3 := Lib.hid (show Ints v3 v U by rw [hv3]; exact (HV2.out.below hb3).alloc _)
    have HW3 := Lib.hid hv3.symm
    have hs3 : v3.heap.size = u3.heap.size + 1 := by rw [hv3]; simp
    have hlt3 : u2.heap.size ≤ u3.heap.size := hb3.size
    have HS3 := Lib.hid hs3
    clear hb3 hv3 c0 c1
    go_wp2_with fail
    rw [HW3.out]
    refine (callsIn_wide.1 (backward_in Fence.wide 0 trivial hro _ sv _)).mono ?_
    rintro e w' ⟨rfl, rfl⟩
    go_wp2_with fail
    obtain ⟨W0, hW0⟩ : ∃ W0, W0 = (v3.alloc (.cells #[.slice none 0 0] 22)).alloc (.cells #[v] 22) := ⟨_, rfl⟩
    have bO : Boxed W0 v3.heap.size 22 (.slice none 0 0) := by rw [hW0]; exact (Boxed.new v3 22 (.slice none 0 0)).alloc _
    have bN : Boxed W0 (v3.heap.size + 1) 22 v := by
      rw [hW0]
      have := Boxed.new (v3.alloc (.cells #[.slice none 0 0] 22)) 22 v
      rwa [World.size_alloc] at this
    have hB3 : Below v3.heap.size v3 W0 := by rw [hW0]; exact ((Below.refl _ _).alloc (Nat.le_refl _) _).alloc (by simp) _
    have hs0 : W0.heap.size = v3.heap.size + 2 := by rw [hW0]; simp
    have pf0 := PF3.out.below hB3
    have pg0 := PG3.out.below hB3
    have hB0 : Below w.heap.size w W0 := Below.chain HBB3.out hB3
    have hws : w.heap.size ≤ u1.heap.size := hus
    rw [← hW0]
    have HW0 := Lib.hid hW0; clear hW0
    rw [HS3.out] at bO bN hs0
    have HLE := HLEAD.out.2
    obtain ⟨g, hg⟩ : ∃ g : Nat → Int, g = fun j => U.getD j 1 := ⟨_, rfl⟩
    have hg1 : ∀ j, j < U.length → g j = nth U j := fun j hj => by rw [hg]; simp [nth, hj]
    have hg2 : ∀ j, -1000 ≤ g j ∧ g j ≤ 1000 := fun j => by
      rcases Nat.lt_or_ge j U.length with h | h
      · rw [hg1 j h]; exact HLE _ (nth_mem h)
      · rw [hg]; simp [List.getElem?_eq_none h]
    have HG1 := Lib.hid hg1; have HG2 := Lib.hid hg2; clear hg hg1 hg2 HLE
    obtain ⟨it, hit, hz0, hz1, hz2⟩ := info_parts info_int
    have hn3 : v3.heap.size ≤ W0.heap.size := hB3.size
    rw [HS3.out] at hn3
    refine (wpIn_wide (n := 3)).1 ?_
    refine wpIn_rangeFunc_ownG hro i1 (gf := 98) (lb := #[.pointer (some ⟨u3.heap.size + 1 + 1, 0, none⟩)]) rfl trivial (enters_of Try.func98 (by kernel_rfl) rfl)
      (backward_stopsG Fence.wide (3 - 1) trivial hro (by omega) (u3.heap.size + 1 + 1) (u3.heap.size + 1) v U g HG1.out v3 _ HS3.out HV3.out (HS3.out ▸ hB3) (by omega) bN.cell) keepB_t (keepB_b (by omega) (by omega)) (Below.refl _ _) (fun _ => rfl)
      (fun pre W => (((((∃ x, Boxed W (u3.heap.size + 1) 22 x ∧ W.ownsRow (u3.heap.size + 1) 3 1 x pre.length ((pre.map fun j => -(g j)).map (Value.int .i64)) ∧ True) ∧ Boxed W (u3.heap.size + 1 + 1) 22 v) ∧ Pair W u1.heap.size 68 (.int .i64 n0) (.int .i64 d0)) ∧ Pair W u3.heap.size 68 (.int .i64 0) (.int .i64 1)) ∧ Below w.heap.size w W))
      (fun _ _ _ => False)
      (OwnFrom.and (OwnFrom.and (OwnFrom.and (OwnFrom.and (Go.Own.from (holdsRow_own (u3.heap.size + 1) (u3.heap.size + 1) 22 3 1 (fun pre : List Nat => pre.length) (fun pre => (pre.map fun j => -(g j)).map (Value.int .i64)) (fun pre v => True)) _) (Go.Own.from (boxed_own _ _ _) _)) (Go.Own.from (pair_own _ _ _ _) _)) (Go.Own.from (pair_own _ _ _ _) _)) (ownFrom_below (Nat.le_refl _) (by omega)))
      (fun _ _ _ _ _ hs _ _ => hs)
      ⟨⟨⟨⟨⟨_, bO, World.ownsRow_nil _ _ _ _, trivial⟩, bN⟩, pf0⟩, pg0⟩, hB0⟩
      (fun x => { tmps := #[Value.int .i64 a, .int .i64 b, undef, undef, .bool false, .pointer (some ⟨u1.heap.size, 0, none⟩), v, .int .i64 0, .pointer (some ⟨u3.heap.size, 0, none⟩), .int .i64 0, .pointer (some ⟨u3.heap.size + 1, 0, none⟩), undef, .int .i64 (g x), undef, undef, undef, undef, undef, undef, .int .i64 a, .int .i64 b, .agg #[.int .i64 n0, .int .i64 d0], .int .i64 a, .int .i64 (a.tmod 17), .bool false, undef, .tuple #[v, .int .i64 0], .agg #[.int .i64 n0, .int .i64 d0], .tuple #[v, .int .i64 0], v, .int .i64 0, .tuple #[.agg #[.int .i64 0, .int .i64 1], .int .i64 0], .agg #[.int .i64 n0, .int .i64 d0], v, .tuple #[.agg #[.int .i64 0, .int .i64 1], .int .i64 0], .agg #[.int .i64 0, .int .i64 1], .int .i64 0, v, .func (.func 98) #[] #[.pointer (some ⟨u3.heap.size + 1 + 1, 0, none⟩)], .int .i64 (x : Int), .int .i64 (g x), undef, undef, undef, undef, undef, undef, undef, undef, undef, undef, undef, undef, undef, undef, undef, undef, undef, undef, undef, undef, undef, undef, undef, undef, undef, undef, undef, undef, undef, undef, undef, undef, undef, undef, undef, undef, undef, undef, undef, undef, undef, undef, undef, undef, undef, undef, undef, undef, undef, undef, undef, undef, undef, undef, undef, undef, undef, undef, undef, undef, undef, undef, undef, undef, undef, undef, undef, undef, undef, undef, undef, undef, undef], defers := [] }) ?assign ?body ?done ?stop
    case assign =>
      intro l x W K hK
      gi_wp2
      exact hK
    case body =>
      rintro l pre x W ⟨⟨⟨⟨⟨y, hu, hrow, -⟩, hbx⟩, hpf⟩, hpg⟩, hB⟩ hlt
      have hc := hu.cell
      obtain ⟨c, hcx⟩ : ∃ c, c = g x := ⟨_, rfl⟩
      obtain ⟨hx1, hx2⟩ : -1000 ≤ c ∧ c ≤ 1000 := by rw [hcx]; exact HG2.out x
      simp only [← hcx]
      have HCX := Lib.hid hcx; clear hcx
      have hpl : pre.length < 23 := by have := HL.out; omega
      have hbw := hu.lt
      gi_wp2_with (gi_at_builtin; refine wpListIn_append_own _ rfl _ _ 22 rfl (u3.heap.size + 1) 3 it (.int .i64 0) 1 8 Try.underlying22 hit hz0 hz1 hz2 rfl (by decide) _ _ _ rfl (hrow.alloc _) ⟨W.heap.size, 0, none⟩ 1 1 [.int .i64 (-c)] rfl rfl (cell_one_new _ _ _) (by simp [Value.oneCell']) (by simp only [maxLen]; omega) (by omega) (by simp; omega) ?_; intro v' w1 hown' hgrow _; obtain ⟨g', cap', rfl⟩ := ownsRow_succ hown'; obtain ⟨hv1, hv2, hr2, hk2, hb2⟩ := hu.appended (by decide) hrow (by omega) (Nat.le_refl _) hown' hgrow; have hc1 := hv1.cell; have hf1 := hv1.frozen)
      have hk3 := box_kept (v' := .slice (some ⟨g', 0, none⟩) (pre.length + 1) cap') hbx (by decide) hrow hgrow (show u3.heap.size + 1 + 1 ≠ u3.heap.size + 1 by omega)
      exact ⟨hk2.from _, ⟨hb2, hk3⟩, ⟨⟨⟨⟨_, hv2, by have h2 := hr2; rw [HCX.out] at h2; simpa using h2, trivial⟩, hk3.trans hbx⟩, hpf.under hb2 (by omega)⟩, hpg.under hb2 (by omega)⟩, hB.trans (hb2.mono (by omega))⟩
    case done =>
      rintro D ys W hD rfl ⟨⟨⟨⟨⟨y, hu, hrow, -⟩, hbx⟩, hpf⟩, hpg⟩, hB⟩ hK
      have hown : Ints W y (U.reverse.map (fun x => -x)) := by
        have := own_of_row hrow
        rw [show (downs U.length U.length).map (fun j => -(g j)) = ((downs U.length U.length).map g).map (fun x => -x) by simp, downs_g' U g HG1.out] at this
        exact this.ints
      have hDl : D < W.heap.size := (Array.getElem?_eq_some_iff.1 hK).1
      have sy := hown.isSl
      have cy := hu.cell
      have HY := Lib.hid hown; have HPF := Lib.hid hpf; have HPG := Lib.hid hpg; have HBW := Lib.hid hB; have HK := Lib.hid hK
      clear hown hu hrow hbx hpf hpg hB hK
      gi_wp2
      go_wp2_with fail
      refine (apply_calls 0 1 y (U.reverse.map (fun x => -x)) _ HY.out (by have := HL.out; simp; omega) (fun k hk => by
        obtain ⟨z, hz, rfl⟩ := List.mem_map.1 hk
        have := HLEAD.out.2 z (List.mem_reverse.1 hz)
        omega) HBACK.out.2).mono ?_
      rw [HBACK.out.1]
      rintro e u5 ⟨rfl, hb5⟩
      have pf5 := HPF.out.below hb5
      have pf5l := pf5.lt
      have pf5c := pf5.cell0; have pf5d := pf5.cell1
      obtain ⟨v5, hv5⟩ : ∃ v5, v5 = u5.alloc (.cells #[.int .i64 n0, .int .i64 d0] 68) := ⟨_, rfl⟩
      have PF5 := Lib.hid (show Pair v5 _ _ _ _ by rw [hv5]; exact pf5.alloc _)
      have PG5 := Lib.hid (show Pair v5 _ _ _ _ by rw [hv5]; exact (HPG.out.below hb5).alloc _)
      have PH5 := Lib.hid (show Pair v5 u5.heap.size 68 (.int .i64 n0) (.int .i64 d0) by rw [hv5]; exact pair_new _ _ _ _)
      have HD5 := Lib.hid (show Below W.heap.size W v5 by rw [hv5]; exact hb5.alloc hb5.size _)
      have HB5 := Lib.hid (Below.chain HBW.out HD5.out)
      have HV5 := Lib.hid hv5.symm
      clear hb5 hv5 pf5
      go_wp2_with fail
      rw [HV5.out]
      refine (expand_calls n0 d0 _ HOK.out hn0 hd02).mono ?_
      rintro e u6 ⟨c, rfl, hc, hb6⟩
      have hta := tw_all HOK.out hn0 hd02
      have htf := tw_frac HOK.out
      obtain ⟨C, hC⟩ : ∃ C, C = (exL (if (n0 : Int) < 0 then -1 else 1) (n0 : Int).natAbs (d0 : Int).natAbs).reverse := ⟨_, rfl⟩
      rw [← hC] at hc hta htf
      have sc := hc.isSl
      have lc := hc.len
      obtain ⟨K, hKl⟩ : ∃ K, C.length = K := ⟨_, rfl⟩
      rw [hKl] at lc
      have hK999 : K ≤ 999 := by rw [← hKl]; exact hta.2.2
      have HTA := Lib.hid hta; have HTF := Lib.hid htf; have HKL := Lib.hid hKl; have HC := Lib.hid hc.ints
      have PF6 := Lib.hid (PF5.out.below hb6); have PG6 := Lib.hid (PG5.out.below hb6); have PH6 := Lib.hid (PH5.out.below hb6)
      have HD6 := Lib.hid (Below.chain HD5.out hb6)
      clear hta htf hKl hC hc hb6
      go_wp2_with fail
      refine (rational_calls _).mono ?_
      rintro e u7 ⟨rfl, hb7⟩
      have HC7 := Lib.hid (HC.out.below hb7)
      have PF7 := Lib.hid (PF6.out.below hb7); have PG7 := Lib.hid (PG6.out.below hb7); have PH7 := Lib.hid (PH6.out.below hb7)
      have HD7 := Lib.hid (Below.chain HD6.out hb7)
      clear hb7
      have x0 := PF7.out.cell0; have x1 := PF7.out.cell1; have x2 := PG7.out.cell0; have x3 := PG7.out.cell1; have x4 := PH7.out.cell0; have x5 := PH7.out.cell1
      go_wp2_with fail
      refine (fromTwists_calls c C n0 d0 _ HC7.out HOK.out HTF.out HTA.out.1 HTA.out.2.1 HTA.out.2.2).mono ?_
      rw [HKL.out]
      rintro e u8 ⟨p, q, er, rfl, hcase, hb8⟩
      have pf8 := PF7.out.below hb8
      have hc8 := HC7.out.below hb8
      clear x0 x1 x2 x3 x4 x5
      have y0 := pf8.cell0; have y1 := pf8.cell1
      have hlt8 := pf8.lt
      have HD8 := Lib.hid (Below.chain HD7.out hb8)
      obtain ⟨v8, hv8⟩ : ∃ v8, v8 = u8.alloc (.cells #[.int .i64 p, .int .i64 q] 68) := ⟨_, rfl⟩
      have pf9 : Pair v8 u1.heap.size 68 (.int .i64 n0) (.int .i64 d0) := by rw [hv8]; exact pf8.alloc _
      have pr9 : Pair v8 u8.heap.size 68 (.int .i64 p) (.int .i64 q) := by rw [hv8]; exact pair_new _ _ _ _
      have hc9 : Ints v8 c C := by rw [hv8]; exact hc8.alloc _
      have HD9 : Hid (Below W.heap.size W v8) := Lib.hid (by rw [hv8]; exact HD8.out.alloc HD8.out.size _)
      have hK9 : v8.heap[D]? = some (Obj.deferred (some [])) := (HD9.out.block D hDl).trans HK.out
      have HK9 := Lib.hid hK9
      have HBIG := Lib.hid (containsBig c C _ (twist_enters (Go.Proofs.enters_of Try.func56 (by kernel_rfl) rfl)) v8 hc9 (fun x hx => tb1_calls x v8 (HTA.out.2.1 x hx).1 (HTA.out.2.1 x hx).2))
      have HV8 := Lib.hid hv8.symm
      have HWD : W.heap.size ≤ D ∨ D < W.heap.size := by omega
      have HBF := Lib.hid (Below.chain HBW.out HD9.out)
      have z0 := pf9.cell0; have z1 := pf9.cell1; have z2 := pr9.cell0; have z3 := pr9.cell1
      have hDw : w.heap.size ≤ D := by omega
      clear hb8 hv8 pf8 hc8 hc9 pf9 pr9 hK9 HWD
      rcases hcase with ⟨h12, rfl⟩ | ⟨h12, hbig, rfl⟩ | ⟨h12, hbig, rfl, rfl, rfl⟩
      · have h12i : (12 : Int) < (K : Int) := by omega
        go_wp2_with fail
        rw [HV8.out]
        go_wp2_with fail
        refine ⟨by simp, .inl ⟨_, _, rfl, run_takeDeferred HK9.out, ?_⟩⟩
        exact ⟨_, results_tmp rfl _ _ _, rfl, HBF.out.trans (belowK_b (w := w) (Nat.le_refl _) v8 D _ _ hDw HK9.out rfl rfl)⟩
      · have h12i : ¬ (12 : Int) < (K : Int) := by omega
        rw [decide_eq_true hbig] at HBIG
        have HBG := Lib.hid hbig; clear hbig
        go_wp2_with fail
        rw [HV8.out]
        refine HBIG.out.mono ?_
        rintro e w' ⟨rfl, rfl⟩
        go_wp2_with fail
        refine ⟨by simp, .inl ⟨_, _, rfl, run_takeDeferred HK9.out, ?_⟩⟩
        exact ⟨_, results_tmp rfl _ _ _, rfl, HBF.out.trans (belowK_b (w := w) (Nat.le_refl _) v8 D _ _ hDw HK9.out rfl rfl)⟩
      · have h12i : ¬ (12 : Int) < (K : Int) := by omega
        rw [decide_eq_false hbig] at HBIG
        have HBG := Lib.hid hbig; clear hbig
        go_wp2_with fail
        rw [HV8.out]
        refine HBIG.out.mono ?_
        rintro e w' ⟨rfl, rfl⟩
        go_wp2_with fail
        refine ⟨by simp, .inl ⟨_, _, rfl, run_takeDeferred HK9.out, ?_⟩⟩
        exact ⟨_, results_tmp rfl _ _ _, rfl, HBF.out.trans (belowK_b (w := w) (Nat.le_refl _) v8 D _ _ hDw HK9.out rfl rfl)⟩
    case stop =>
      rintro D c pre W _ _ h _
      exact h.elim
end Go.Proofs.Ytpnbkoihglppnaa

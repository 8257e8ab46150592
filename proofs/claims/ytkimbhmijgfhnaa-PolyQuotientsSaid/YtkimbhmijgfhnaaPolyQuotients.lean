/- PolyQuotients: for every input the statement returns true, and nothing that was there has changed. -/
import Derived.Test.YtkimbhmijgfhnaaDivAll
import Derived.Test.YtkimbhmijgfhnaaLive
import Derived.Deep.RegionHeld3
namespace Go.Proofs.Ytkimbhmijgfhnaa
open Go.RowKit Go.Sl

theorem drew_heap_size (w : World) : w.drew.heap.size = w.heap.size := rfl
set_option maxHeartbeats 4000000 in
set_option maxRecDepth 100000 in
theorem polyQuotients_true {w0 : World} (i : Int) (hi : I64 i) (j : Int) (hj : I64 j) (a : Value) (as1 : List Int) (hra : Ints w0 a as1) (hxa : ∀ x ∈ as1, I64 x) (b : Value) (bs : List Int) (hrb : Ints w0 b bs) (hxb : ∀ x ∈ bs, I64 x)
    (w : World) (hw : w = w0 := by rfl) :
    Calls Try.prog 4 #[.int .i64 i, .int .i64 j, a, b] w fun e w' => e = .returned (.bool true) ∧ Below w.heap.size w w' := by
  subst hw
  have HB : Below w.heap.size w w := Below.refl _ _
  obtain ⟨X, hX⟩ : ∃ X, X = polyL i as1 := ⟨_, rfl⟩
  obtain ⟨Y, hY⟩ : ∃ Y, Y = polyL j bs := ⟨_, rfl⟩
  have BX := Lib.hid (show PB X (-10) 22 600 50 from hX ▸ polyL_pb i as1)
  have BY := Lib.hid (show PB Y (-10) 22 600 50 from hY ▸ polyL_pb j bs)
  have EX := Lib.hid hX; have EY := Lib.hid hY
  have HXa := Lib.hid hxa; have HXb := Lib.hid hxb
  clear hX hY hxa hxb
  go_enter Try.func4, Try.ntmps4
  go_wp2_with fail
  refine (makepoly_calls i a as1 _ hi hra HXa.out).mono ?_
  rw [← EX.out]
  rintro e u1 ⟨x, rfl, hx, hb1⟩
  replace hra := hra.below hb1
  replace hrb := hrb.below hb1
  replace HB := Below.chain HB hb1; clear hb1
  have s_hx := hx.isSl
  go_wp2_with fail
  refine (makepoly_calls j b bs _ hj hrb HXb.out).mono ?_
  rw [← EY.out]
  rintro e u2 ⟨y, rfl, hy, hb2⟩
  replace hra := hra.below hb2
  replace hrb := hrb.below hb2
  replace hx := hx.below hb2
  replace HB := Below.chain HB hb2; clear hb2
  have s_hy := hy.isSl
  clear hra hrb
  obtain ⟨ax, nx, cx, rfl, -⟩ := hx.isSl.cases
  obtain ⟨ay, ny, cy, rfl, -⟩ := hy.isSl.cases
  obtain ⟨v30, hv30⟩ : ∃ v30, v30 = (u2.alloc (.cells #[.int .i64 X.low, (.slice ax nx cx)] 24)).alloc (.cells #[.int .i64 Y.low, (.slice ay ny cy)] 24) := ⟨_, rfl⟩
  obtain ⟨px, py, hw30, hz30⟩ := two _ _ _ _ _ _ _ hv30; clear hz30
  replace hx := hx.below hw30
  replace hy := hy.below hw30
  replace HB := Below.chain HB hw30; clear hw30
  have HV30 := Lib.hid hv30.symm; clear hv30
  have KX : POk X := PB.ok BX.out (by omega) (by omega) (by omega) (by omega) (by decide) (by decide)
  have KY : POk Y := PB.ok BY.out (by omega) (by omega) (by omega) (by omega) (by decide) (by decide)
  have KXY : POk (pmul X Y) := PB.ok (BX.out.mul BY.out) (by omega) (by omega) (by omega) (by omega) (by decide) (by decide)
  have hn1 : n1 X.c * n1 Y.c ≤ 1000000000000 := Nat.le_trans (Nat.mul_le_mul BX.out.sum BY.out.sum) (by decide)
  have hn2 : n1 Y.c ≤ 1000000000 := Nat.le_trans BY.out.sum (by decide)
  have hL : Live v30 [((.slice ax nx cx), X.c), ((.slice ay ny cy), Y.c)] := (((live_nil _).cons hy).cons hx)
  have HX0 := Lib.hid hx; have HY0 := Lib.hid hy
  have hv30 := HB.size
  have HV : Below v30.heap.size v30 v30 := Below.refl _ _
  clear hx hy
  go_wp2_with fail
  rw [HV30.out]
  have hb : Below v30.heap.size v30 v30.drew := (Below.refl _ _).drew
  replace hL := hL.below hb
  replace px := px.below hb
  replace py := py.below hb
  replace HB := Below.chain HB hb
  replace HV := Below.chain HV hb
  clear hb
  go_region_held3 (fun w' => w'.cell? ⟨u2.heap.size, 0, none⟩ = some (.int .i64 X.low) ∧ w'.cell? ⟨u2.heap.size, 1, none⟩ = some (.slice ax nx cx) ∧ w'.cell? ⟨u2.heap.size + 1, 0, none⟩ = some (.int .i64 Y.low) ∧ w'.cell? ⟨u2.heap.size + 1, 1, none⟩ = some (.slice ay ny cy)) (first | exact ⟨px.cell0, px.cell1, py.cell0, py.cell1⟩ | exact ⟨(px.alloc _).cell0, (px.alloc _).cell1, (py.alloc _).cell0, (py.alloc _).cell1⟩ | exact ⟨(px.other (by omega) _ _).cell0, (px.other (by omega) _ _).cell1, (py.other (by omega) _ _).cell0, (py.other (by omega) _ _).cell1⟩ | exact ⟨((px.other (by omega) _ _).other (by omega) _ _).cell0, ((px.other (by omega) _ _).other (by omega) _ _).cell1, ((py.other (by omega) _ _).other (by omega) _ _).cell0, ((py.other (by omega) _ _).other (by omega) _ _).cell1⟩ | fail "keep")
    (first
      | (go_at_call 20; refine (mulK_calls _ _ _ _ _ ((hL.get (by simp))) ((hL.get (by simp))) (by assumption) (by assumption) (by assumption)).mono ?_; rintro e w' ⟨v, rfl, hv, hb⟩; replace hL := hL.below hb; replace px := px.below hb; replace py := py.below hb; replace HB := Below.chain HB hb; replace HV := Below.chain HV hb; clear hb; replace hL := hL.cons hv.ints; clear hv)
      | (obtain ⟨Q, hQ⟩ : ∃ Q, Q = v30.heap.size := ⟨_, rfl⟩; have hq0 := Nat.le_refl v30.heap.size; go_at_call 20; refine (mulK_calls _ _ _ _ _ ((hL.get (by simp)).alloc _) ((hL.get (by simp)).alloc _) (by assumption) (by assumption) (by assumption)).mono ?_; rintro e w' ⟨v, rfl, hv, hb⟩; have lx := px.lt; have ly := py.lt; have pq := (pair_new _ _ _ _).below hb; (try simp only [drew_heap_size] at pq lx ly); replace hL := (hL.below ((Below.refl _ _).alloc (Nat.le_refl _) _)).below hb; replace px := (px.alloc _).below hb; replace py := (py.alloc _).below hb; replace HB := Below.chain (Below.chain HB ((Below.refl _ _).alloc (Nat.le_refl _) _)) hb; replace HV := Below.chain (Below.chain HV ((Below.refl _ _).alloc (Nat.le_refl _) _)) hb; clear hb; replace hL := hL.cons hv.ints; clear hv; have q0 := pq.cell0; have q1 := pq.cell1; have q2 := pq.free0; have q3 := pq.free1)
      | (have hlt := pq.lt; go_at_call 22; refine (div_calls X Y _ _ _ ((hL.get (by simp))) ((hL.get (by simp))) KXY KY KX hn1 hn2).mono ?_; rintro e w' ⟨v, rfl, hv, hb⟩; obtain ⟨bv, nv, kv, rfl, -⟩ := hv.isSl.cases; have sv := hv.isSl; replace pq := pq.below hb; replace hL := hL.below hb; replace px := px.below hb; replace py := py.below hb; replace HB := Below.chain HB hb; replace HV := Below.chain HV hb; clear hb; have hd := hv.low (Nat.succ_le_of_lt hlt); clear hv q0 q1 q2 q3; have q0 := pq.cell0; have q1 := pq.cell1; have q2 := pq.free0; have q3 := pq.free1)
      | (go_at_call 22; refine (div_calls X Y _ _ _ ((hL.get (by simp))) ((hL.get (by simp))) KXY KY KX hn1 hn2).mono ?_; rintro e w' ⟨v, rfl, hv, hb⟩; obtain ⟨bv, nv, kv, rfl, -⟩ := hv.isSl.cases; have sv := hv.isSl; replace hL := hL.below hb; replace px := px.below hb; replace py := py.below hb; replace HB := Below.chain HB hb; replace HV := Below.chain HV hb; clear hb; have hd := hv; clear hv)
      | (have hq0 := HV.size; obtain ⟨Q, hQ⟩ : ∃ Q, Q = w'.heap.size := ⟨_, rfl⟩; go_at_call 22; refine (div_calls X Y _ _ _ ((hL.get (by simp)).alloc _) ((hL.get (by simp)).alloc _) KXY KY KX hn1 hn2).mono ?_; rintro e w' ⟨v, rfl, hv, hb⟩; obtain ⟨bv, nv, kv, rfl, -⟩ := hv.isSl.cases; have sv := hv.isSl; have lx := px.lt; have ly := py.lt; have pq := (pair_new _ _ _ _).below hb; (try simp only [drew_heap_size] at pq lx ly); replace hL := (hL.below ((Below.refl _ _).alloc (Nat.le_refl _) _)).below hb; replace px := (px.alloc _).below hb; replace py := (py.alloc _).below hb; replace HB := Below.chain (Below.chain HB ((Below.refl _ _).alloc (Nat.le_refl _) _)) hb; replace HV := Below.chain (Below.chain HV ((Below.refl _ _).alloc (Nat.le_refl _) _)) hb; clear hb; have hd := hv.low (Nat.le_of_eq (World.size_alloc _ _).symm); clear hv; have q0 := pq.cell0; have q1 := pq.cell1; have q2 := pq.free0; have q3 := pq.free1)
      | fail "arm")
  case' refine_2.refine_3.refine_3.refine_3.refine_1.refine_2.refine_1.refine_2.refine_3.refine_3.refine_3.refine_1.refine_2.refine_1.refine_2.refine_3 =>
    obtain ⟨V, hV⟩ : ∃ V, V = w'.alloc (.cells #[.int .i64 (divR X Y).low, .slice bv nv kv] 24) := ⟨_, rfl⟩
    have hb : Below w'.heap.size w' V := by rw [hV]; exact (Below.refl _ _).alloc (Nat.le_refl _) _
    have pq : Pair V w'.heap.size 24 (.int .i64 (divR X Y).low) (.slice bv nv kv) := by rw [hV]; exact pair_new _ _ _ _
    obtain ⟨Q, hQ⟩ : ∃ Q, Q = w'.heap.size := ⟨_, rfl⟩
    replace px := px.below hb; replace py := py.below hb; replace hd := hd.ints.below hb; replace HB := Below.chain HB hb; replace HV := Below.chain HV hb
    rw [← hV, ← hQ]
    rw [← hQ] at pq
    clear hb hL hV hQ
  case' refine_2.refine_3.refine_3.refine_3.refine_1.refine_2.refine_2.refine_1.refine_2.refine_1.refine_2.refine_3.refine_3.refine_3.refine_1.refine_2.refine_3 =>
    rw [← hQ] at pq hd hq0 lx ly ⊢
    obtain ⟨V, hV⟩ : ∃ V, V = ((w'.setCell ⟨Q, 0, none⟩ (.int .i64 (divR X Y).low)).setCell ⟨Q, 1, none⟩ (.slice bv nv kv)) := ⟨_, rfl⟩
    replace pq : Pair V Q 24 (.int .i64 (divR X Y).low) (.slice bv nv kv) := by rw [hV]; exact pq.set _ _
    replace px : Pair V u2.heap.size 24 (.int .i64 X.low) (.slice ax nx cx) := by rw [hV]; exact (px.other (by omega) _ _).other (by omega) _ _
    replace py : Pair V (u2.heap.size + 1) 24 (.int .i64 Y.low) (.slice ay ny cy) := by rw [hV]; exact (py.other (by omega) _ _).other (by omega) _ _
    replace hd : Ints V (.slice bv nv kv) (divR X Y).c := by
      rw [hV]
      exact ((hd.setOther (fun k hk e => by have h1 := (hd.lt k hk).1; simp at e; omega) _).setOther (fun k hk e => by have h1 := (hd.lt k hk).1; simp at e; omega) _).ints
    replace HB : Below w.heap.size w V := by rw [hV]; exact (HB.setCell (by simp; omega) _).setCell (by simp; omega) _
    replace HV : Below v30.heap.size v30 V := by rw [hV]; exact (HV.setCell (by simp; omega) _).setCell (by simp; omega) _
    rw [← hV]
    clear hL hV hQ q0 q1 q2 q3
  case' refine_2.refine_3.refine_3.refine_3.refine_2.refine_1.refine_2.refine_1.refine_2.refine_1.refine_2.refine_3.refine_3.refine_3.refine_1.refine_2.refine_3 =>
    rw [← hQ] at pq hd hq0 lx ly ⊢
    obtain ⟨V, hV⟩ : ∃ V, V = ((w'.setCell ⟨Q, 0, none⟩ (.int .i64 (divR X Y).low)).setCell ⟨Q, 1, none⟩ (.slice bv nv kv)) := ⟨_, rfl⟩
    replace pq : Pair V Q 24 (.int .i64 (divR X Y).low) (.slice bv nv kv) := by rw [hV]; exact pq.set _ _
    replace px : Pair V u2.heap.size 24 (.int .i64 X.low) (.slice ax nx cx) := by rw [hV]; exact (px.other (by omega) _ _).other (by omega) _ _
    replace py : Pair V (u2.heap.size + 1) 24 (.int .i64 Y.low) (.slice ay ny cy) := by rw [hV]; exact (py.other (by omega) _ _).other (by omega) _ _
    replace hd : Ints V (.slice bv nv kv) (divR X Y).c := by
      rw [hV]
      exact ((hd.setOther (fun k hk e => by have h1 := (hd.lt k hk).1; simp at e; omega) _).setOther (fun k hk e => by have h1 := (hd.lt k hk).1; simp at e; omega) _).ints
    replace HB : Below w.heap.size w V := by rw [hV]; exact (HB.setCell (by simp; omega) _).setCell (by simp; omega) _
    replace HV : Below v30.heap.size v30 V := by rw [hV]; exact (HV.setCell (by simp; omega) _).setCell (by simp; omega) _
    rw [← hV]
    clear hL hV hQ q0 q1 q2 q3
  all_goals
    have hx := HX0.out.below HV
    have hy := HY0.out.below HV
    clear HX0 HY0 HV
    have s_hd := hd.isSl
    have lny := hy.len
    obtain ⟨n, hn⟩ : ∃ n, Y.c.length = n := ⟨_, rfl⟩
    have hn2 : n ≤ 200 := by rw [← hn]; exact KY.len
    rw [hn] at lny
    have HN := Lib.hid hn; clear hn
    clear KX KY KXY hn1
    have c0_px := px.cell0; have c1_px := px.cell1; have l_px := px.lt
    have c0_py := py.cell0; have c1_py := py.cell1; have l_py := py.lt
    have c0_pq := pq.cell0; have c1_pq := pq.cell1; have l_pq := pq.lt
    go_wp2_with fail
    refine (multiplied_calls _).mono ?_
    rintro e z1 ⟨rfl, hb⟩
    replace px := px.below hb; replace py := py.below hb; replace pq := pq.below hb; replace hx := hx.below hb; replace hy := hy.below hb; replace hd := hd.below hb; replace HB := Below.chain HB hb
    clear hb
    replace c0_px := px.cell0; replace c1_px := px.cell1; replace l_px := px.lt
    replace c0_py := py.cell0; replace c1_py := py.cell1; replace l_py := py.lt
    replace c0_pq := pq.cell0; replace c1_pq := pq.cell1; replace l_pq := pq.lt
    have HX9 := Lib.hid hx; have HY9 := Lib.hid hy; have HD9 := Lib.hid hd; have HB9 := Lib.hid HB
    clear hx hy hd HB
    by_cases h0 : n = 0
    · subst h0
      have hc : Y.c = [] := List.length_eq_zero_iff.1 HN.out
      have hR := Lib.hid (show divR X Y = pzero by unfold divR; rw [if_pos hc])
      have hE : divE Y = 6 := by unfold divE; rw [if_pos hc]
      have hE2 : (divE Y == 6) = true := by rw [hE]; rfl
      clear hE hc
      go_wp2_with fail
      refine (same_yes (divR X Y) pzero _ _ _ HD9.out (ints_nil _) hR.out).mono ?_
      rintro e z2 ⟨rfl, hb⟩
      have HB8 := Lib.hid (Below.chain HB9.out hb); clear hb
      go_wp2_with fail
      go_ret
      exact ⟨rfl, HB8.out⟩
    · obtain ⟨m, hm⟩ : ∃ m, m = n - 1 := ⟨_, rfl⟩
      have hmn : m < n := by omega
      have hmi : (n : Int) - 1 = (m : Int) := by omega
      have hnz : ((n : Int) == 0) = false := by rw [beq_eq_false_iff_ne]; omega
      have hc : Y.c ≠ [] := fun h => by have := HN.out; rw [h] at this; simp at this; omega
      have c1 := HY9.out.cell (k := m) (by rw [HN.out]; exact hmn)
      obtain ⟨la, hla⟩ : ∃ la, nth Y.c m = la := ⟨_, rfl⟩
      have hla2 : nth Y.c (Y.c.length - 1) = la := by rw [HN.out, ← hm]; exact hla
      rw [hla] at c1
      have HC := Lib.hid hc; have HLA := Lib.hid hla2
      clear hla hla2 hc hm h0
      by_cases h1 : la = 1
      · subst h1
        have hR := Lib.hid (show divR X Y = X by unfold divR; rw [if_neg HC.out, if_pos (.inl HLA.out)])
        have hE : divE Y = 0 := by unfold divE; rw [if_neg HC.out, if_pos (.inl HLA.out)]
        have hE2 : (divE Y == 0) = true := by rw [hE]; rfl
        clear hE
        go_wp2_with fail
        refine (same_yes (divR X Y) X _ _ _ HD9.out HX9.out hR.out).mono ?_
        rintro e z2 ⟨rfl, hb⟩
        have HB8 := Lib.hid (Below.chain HB9.out hb); clear hb
        go_wp2_with fail
        go_ret
        exact ⟨rfl, HB8.out⟩
      · by_cases h2 : la = -1
        · subst h2
          have hR := Lib.hid (show divR X Y = X by unfold divR; rw [if_neg HC.out, if_pos (.inr HLA.out)])
          have hE : divE Y = 0 := by unfold divE; rw [if_neg HC.out, if_pos (.inr HLA.out)]
          have hE2 : (divE Y == 0) = true := by rw [hE]; rfl
          clear hE h1
          go_wp2_with fail
          refine (same_yes (divR X Y) X _ _ _ HD9.out HX9.out hR.out).mono ?_
          rintro e z2 ⟨rfl, hb⟩
          have HB8 := Lib.hid (Below.chain HB9.out hb); clear hb
          go_wp2_with fail
          go_ret
          exact ⟨rfl, HB8.out⟩
        · have hno : ¬ (nth Y.c (Y.c.length - 1) = 1 ∨ nth Y.c (Y.c.length - 1) = -1) := by rw [HLA.out]; omega
          have hR := Lib.hid (show divR X Y = pzero by unfold divR; rw [if_neg HC.out, if_neg hno])
          have hE : divE Y = 3 := by unfold divE; rw [if_neg HC.out, if_neg hno]
          have hE2 : (divE Y == 3) = true := by rw [hE]; rfl
          have g1 : (la != 1) = true := by simp [h1]
          have g2 : (la != -1) = true := by simp [h2]
          clear hE hno h1 h2
          go_wp2_with fail
          refine (same_yes (divR X Y) pzero _ _ _ HD9.out (ints_nil _) hR.out).mono ?_
          rintro e z2 ⟨rfl, hb⟩
          have HB8 := Lib.hid (Below.chain HB9.out hb); clear hb
          go_wp2_with fail
          go_ret
          exact ⟨rfl, HB8.out⟩

end Go.Proofs.Ytkimbhmijgfhnaa

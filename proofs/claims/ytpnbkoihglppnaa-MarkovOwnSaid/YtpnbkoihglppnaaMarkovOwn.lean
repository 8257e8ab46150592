/- MarkovOwn: for every input the statement returns true, and nothing that was there has changed. -/
import Derived.Test.YtpnbkoihglppnaaMarkovMove
import Derived.Test.YtpnbkoihglppnaaColorLetters
namespace Go.Proofs.Ytpnbkoihglppnaa
open Go.RowKit Go.Sl Go.Maps

theorem mlocal_length (xs : List Int) (k j : Nat) (l : Int) : (mlocal xs k j l).1.length ≤ xs.length + 3 := by
  unfold mlocal
  split
  · simp
  · split
    · simp
    · rename_i ys hy
      have : ys.length ≤ 3 := by
        unfold mnext at hy
        split at hy
        · injection hy with hy; subst hy; simp
        · split at hy
          · split at hy
            · injection hy with hy; subst hy; simp
            · cases hy
          · split at hy
            · split at hy
              · injection hy with hy; subst hy; simp
              · cases hy
            · split at hy
              · injection hy with hy; subst hy; simp
              · cases hy
      simp; omega
theorem mapply_length (n : Int) (xs : List Int) (k j : Nat) (l : Int) : (mapply n xs k j l).2.1.length ≤ xs.length + 3 := by
  have := mlocal_length xs k j l
  unfold mapply
  split
  · simp
  · split
    · simp
    · unfold mperform
      split
      · split
        · simp
        · simp; omega
      · split
        · simp
        · split
          · split
            · simp; omega
            · simp
          · exact this
theorem mapply_one : mapply 1 [] 6 0 1 = (2, [1], 0) := by
  have e : mperform 1 [] 6 0 1 = (2, [1], 0) := by unfold mperform; rw [if_neg (by decide), if_pos rfl]; rfl
  unfold mapply; rw [e]; rfl

set_option maxRecDepth 100000 in
set_option maxHeartbeats 8000000 in
theorem markovOwn_true {w0 : World} (n0 : Int) (hn0 : I64 n0) (raw : Value) (zs : List Int) (hr : Ints w0 raw zs) (hz : ∀ z ∈ zs, I64 z) (kind : Int) (h1 : I64 kind) (at_ : Int) (h2 : I64 at_) (letter : Int) (h3 : I64 letter) (w : World) (hw : w = w0 := by rfl) :
    Calls Try.prog 10 #[.int .i64 n0, raw, .int .i64 kind, .int .i64 at_, .int .i64 letter] w fun e w' => e = .returned (.bool true) ∧ Below w.heap.size w w' := by
  subst hw
  have hb1 := Int.emod_nonneg n0 (b := 6 - 1) (by omega)
  have hb2 := Int.emod_lt_of_pos n0 (b := 6 - 1) (by omega)
  have HS := Lib.hid (strands_calls n0 6 w hn0 (by omega) (by omega))
  obtain ⟨K, hK⟩ : ∃ K, n0 % (6 - 1) = K := ⟨_, rfl⟩
  rw [hK] at hb1 hb2 HS
  clear hK
  obtain ⟨N, hN⟩ : ∃ N, 2 + K = N := ⟨_, rfl⟩
  rw [hN] at HS
  have hN2 : 2 ≤ N := by omega
  have hN6 : N ≤ 6 := by omega
  clear hN hb1 hb2
  have w1 : IntKind.i64.wrap (N - 1) = N - 1 := IntWalk.i64_in _ ⟨by omega, by omega⟩
  have HW := Lib.hid (word_calls (N - 1) raw zs 12 w hr hz (by omega) (by omega) (by omega))
  obtain ⟨X, hX⟩ : ∃ X, wordL (N - 1) zs 12 = X := ⟨_, rfl⟩
  have hbw : BWord N X := hX ▸ wordL_bword (by omega) zs 12
  have hXl : X.length ≤ 12 := by rw [← hX]; simp [wordL]; omega
  rw [hX] at HW
  have HBW := Lib.hid hbw
  clear hX hbw hr hz
  go_enter Try.func10, Try.ntmps10
  go_wp2_with fail
  refine HS.out.mono ?_
  rintro e w' ⟨rfl, rfl⟩
  go_wp2_with fail
  refine HW.out.mono ?_
  rintro e w2 ⟨x, rfl, hx, hb⟩
  have sx := hx.isSl
  have HX := Lib.hid hx.ints
  have B2 := Lib.hid hb
  clear hx hb
  go_wp2_with fail
  refine (clone_calls _ _ _ HX.out (by omega)).mono ?_
  rintro e w3 ⟨old, rfl, hx, hb⟩
  have sold := hx.isSl
  have HOLD := Lib.hid hx.ints
  have HX3 := Lib.hid (HX.out.below hb)
  have B3 := Lib.hid (Below.chain B2.out hb)
  clear hx hb HX
  go_wp2_with fail
  refine (move_calls N x X kind at_ letter _ HX3.out hN2 hN6 (by omega) h1 h2 h3).mono ?_
  rintro e w4 ⟨k, j, l, rfl, hk, hj, hins, hoth, hb⟩
  have HX4 := Lib.hid (HX3.out.below hb)
  have HOLD4 := Lib.hid (HOLD.out.below hb)
  have B4 := Lib.hid (Below.chain B3.out hb)
  have HINS := Lib.hid hins; have HOTH := Lib.hid hoth
  clear hb HX3 HOLD hins hoth
  go_wp2_with fail
  obtain ⟨W5, hW5⟩ : ∃ W5, W5 = w4.alloc (.cells #[.int .i64 k, .int .i64 j, .int .i64 l] 59) := ⟨_, rfl⟩
  rw [← hW5]
  have hb5 : Below w4.heap.size w4 W5 := by rw [hW5]; exact (Below.refl _ _).alloc (Nat.le_refl _) _
  have HX5 := Lib.hid (HX4.out.below hb5)
  have HOLD5 := Lib.hid (HOLD4.out.below hb5)
  have B5 := Lib.hid (Below.chain B4.out hb5)
  have c0 : W5.cell? ⟨w4.heap.size, 0, none⟩ = some (.int .i64 k) := by rw [hW5]; simp [go_sem]
  have c1 : W5.cell? ⟨w4.heap.size, 1, none⟩ = some (.int .i64 j) := by rw [hW5]; simp [go_sem]
  have c2 : W5.cell? ⟨w4.heap.size, 2, none⟩ = some (.int .i64 l) := by rw [hW5]; simp [go_sem]
  have LT5 := Lib.hid (show w4.heap.size < W5.heap.size by rw [hW5]; simp)
  have C0 := Lib.hid c0; have C1 := Lib.hid c1; have C2 := Lib.hid c2
  clear hW5 hb5 HX4 HOLD4 c0 c1 c2
  have HONE := apply_calls 1 (.slice none 0 0) [] 6 0 1 W5 (ints_nil _) (by omega) (by omega) (by simp) (fun y hy => by cases hy) (by omega) (by omega) (by omega) (by omega) (by omega) (fun h => by omega) (fun _ => .inl rfl) (fun h => by omega)
  rw [mapply_one] at HONE
  refine HONE.mono ?_
  rintro e w6 ⟨one, rfl, ho, hb⟩
  have sone := ho.isSl
  have HO := Lib.hid ho.ints
  have HX6 := Lib.hid (HX5.out.below hb)
  have HOLD6 := Lib.hid (HOLD5.out.below hb)
  have B6 := Lib.hid (Below.chain B5.out hb)
  have c0 := (hb.cell (p := ⟨w4.heap.size, 0, none⟩) LT5.out).trans C0.out
  have c1 := (hb.cell (p := ⟨w4.heap.size, 1, none⟩) LT5.out).trans C1.out
  have c2 := (hb.cell (p := ⟨w4.heap.size, 2, none⟩) LT5.out).trans C2.out
  have LT6 := Lib.hid (Nat.lt_of_lt_of_le LT5.out hb.size)
  clear ho hb HX5 HOLD5 HONE C0 C1 C2
  have C0 := Lib.hid c0; have C1 := Lib.hid c1; have C2 := Lib.hid c2
  clear c0 c1 c2
  go_wp2_with fail
  refine (equal_yes _ _ [1] [1] _ (HO.out.alloc _) (ints_lit [1] rfl rfl rfl (by simp)) rfl).mono ?_
  rintro e w7 ⟨rfl, hb⟩
  have hb7 : Below w6.heap.size w6 w7 := Below.chain ((Below.refl _ _).alloc (Nat.le_refl _) _) hb
  have hx7 := HX6.out.below hb7
  have hold7 := HOLD6.out.below hb7
  have B7 := Lib.hid (Below.chain B6.out hb7)
  have c0 := (hb7.cell (p := ⟨w4.heap.size, 0, none⟩) LT6.out).trans C0.out
  have c1 := (hb7.cell (p := ⟨w4.heap.size, 1, none⟩) LT6.out).trans C1.out
  have c2 := (hb7.cell (p := ⟨w4.heap.size, 2, none⟩) LT6.out).trans C2.out
  have LT7 := Lib.hid (Nat.lt_of_lt_of_le LT6.out hb7.size)
  have HX7 := Lib.hid hx7; have HOLD7 := Lib.hid hold7
  clear hb hb7 hx7 hold7 HX6 HOLD6 HO C0 C1 C2
  have HAP := Lib.hid (fun W (h : Ints W x X) => apply_calls N x X k j l W h (by omega) hN6 (by omega) HBW.out (by
      by_cases e : k = 1
      · have := HINS.out e; omega
      · have := HOTH.out e; omega) (by
      by_cases e : k = 1
      · have := HINS.out e; omega
      · have := HOTH.out e; omega) (by omega) hk.1 hk.2 HINS.out (fun e => HOTH.out (by omega)) (fun _ => hN2))
  have HML := mapply_length N X k j l
  obtain ⟨R, hR⟩ : ∃ R, mapply N X k j l = R := ⟨_, rfl⟩
  obtain ⟨n', Y, er⟩ := R
  rw [hR] at HAP HML
  simp only at HAP HML
  clear hR
  have KX7 := Lib.hid c0; have KX8 := Lib.hid c1; have KX9 := Lib.hid c2
  go_wp2_with fail
  refine (HAP.out _ HX7.out).mono ?_
  rintro e w8 ⟨y, rfl, hy, hb8⟩
  have sy := hy.isSl
  have HY := Lib.hid hy; have B8 := Lib.hid hb8
  clear hy hb8 c0 c1 c2
  go_wp2_with fail
  refine (clone_calls y Y _ HY.out.ints (by omega)).mono ?_
  rintro e w9 ⟨again, rfl, ha, hb9⟩
  have sag := ha.isSl
  have HAG := Lib.hid ha
  have HY9 := Lib.hid (HY.out.below hb9)
  have B9 := Lib.hid (Below.chain B8.out hb9)
  have LE9 := Lib.hid (Nat.le_trans B8.out.size hb9.size)
  clear ha hb9
  go_wp2_with (at_builtin; refine wpList_push (v := y) rfl _ _ rfl rfl rfl HY9.out LE9.out (by omega) ?_; intro y1 w10 hy1 hg hr; have sy1 := hy1.isSl; have ly1 := hy1.len; obtain ⟨L, hL⟩ : ∃ L, (Y ++ [(77 : Int)]).length = L := ⟨_, rfl⟩; rw [hL] at ly1; have hL2 : L ≤ 100 := by rw [← hL]; simp; omega)
  have hag10 := HAG.out.grown hg (fun b hb e => by have h1 := (HAG.out.lt b hb).1; have h2 := (HY.out.lt b e).2; omega)
  have hne10 : ∀ b, Go.Sl.row y1 = some b → Go.Sl.row again ≠ some b := by
    intro b hb e
    have h1 := HAG.out.lt b e
    rcases hr b hb with h | h
    · have h2 := (HY.out.lt b h).2; omega
    · omega
  have B10 := Lib.hid (Below_of_grown B9.out hg LE9.out (fun b hb => (HY9.out.lt b hb).1))
  have HY10 := Lib.hid hy1; have HAG10 := Lib.hid hag10; have HNE10 := Lib.hid hne10
  have HAL := Lib.hid (show w7.heap.size ≤ w8.heap.size from B8.out.size)
  clear hy1 hag10 hne10 hg hr
  have HLL := Lib.hid hL
  clear hL
  have i63 : (L : Int) ≤ 9223372036854775807 := by omega
  go_loopw [68] (fun i wr => ∃ q : Nat, q ≤ L ∧ i = .int .i64 q ∧ (∃ ys, ys.length = L ∧ OwnI wr w7.heap.size y1 ys) ∧ OwnI wr w8.heap.size again Y ∧ Below w7.heap.size w7 wr) (fun i _ => L - (intOf i).toNat)
  case atStart => exact ⟨0, Nat.zero_le _, rfl, ⟨_, HLL.out, HY10.out⟩, HAG10.out, B10.out⟩
  case round =>
    obtain ⟨q, hq, rfl, ⟨ys, hys, ho⟩, hag, hbr⟩ := hrel
    by_cases hlt : q < L
    · have hql : q < ys.length := by omega
      have c9 := ho.cell hql
      have f9 := ho.frozen hql
      have sto := ho.set hql 99
      have hag2 := hag.setOther (p := vat y1 q) (fun b hb e => HNE10.out b (by rw [row_some (by have := ho.ints.cap; omega)]; rw [← e]; rfl) hb) (.int .i64 99)
      have hbr2 := hbr.setCell (ho.ge hql) (.int .i64 99)
      have HS2 := Lib.hid sto; have HAG2 := Lib.hid hag2; have HBR2 := Lib.hid hbr2
      clear ho hag hbr sto hag2 hbr2
      go_wp2_with fail
      go_roundw
      case rel => exact ⟨q + 1, by omega, by go_num, ⟨_, by rw [List.length_set]; exact hys, HS2.out⟩, HAG2.out, HBR2.out⟩
      case measure => simp [intOf]; omega
    · have HAG2 := Lib.hid hag; have HBR2 := Lib.hid hbr
      have hx11 := HX7.out.below hbr
      have hold11 := HOLD7.out.below hbr
      have c0 := (hbr.cell (p := ⟨w4.heap.size, 0, none⟩) LT7.out).trans KX7.out
      have c1 := (hbr.cell (p := ⟨w4.heap.size, 1, none⟩) LT7.out).trans KX8.out
      have c2 := (hbr.cell (p := ⟨w4.heap.size, 2, none⟩) LT7.out).trans KX9.out
      have HX11 := Lib.hid hx11; have HOLD11 := Lib.hid hold11
      clear ho hag hbr hx11 hold11
      go_wp2_with fail
      refine (HAP.out _ HX11.out).mono ?_
      rintro e w12 ⟨z, rfl, hz, hb12⟩
      have sz := hz.isSl
      have HZ := Lib.hid hz.ints
      have HX12 := Lib.hid (HX11.out.below hb12)
      have HOLD12 := Lib.hid (HOLD11.out.below hb12)
      have HAG12 := Lib.hid (HAG2.out.ints.below hb12)
      have B12 := Lib.hid (HBR2.out.trans (hb12.mono HBR2.out.size))
      clear hz hb12 c0 c1 c2
      go_wp2_with fail
      refine (equal_yes _ _ X X _ HX12.out HOLD12.out rfl).mono ?_
      rintro e w13 ⟨rfl, hb13⟩
      have HZ13 := Lib.hid (HZ.out.below hb13)
      have HAG13 := Lib.hid (HAG12.out.below hb13)
      have B13 := Lib.hid (B12.out.trans (hb13.mono B12.out.size))
      clear hb13
      go_wp2_with fail
      refine (equal_yes _ _ Y Y _ HZ13.out HAG13.out rfl).mono ?_
      rintro e w14 ⟨rfl, hb14⟩
      have B14 := Lib.hid (B13.out.trans (hb14.mono B13.out.size))
      clear hb14
      go_wp2_with fail
      go_ret
      exact ⟨rfl, Below.chain B7.out B14.out⟩

end Go.Proofs.Ytpnbkoihglppnaa

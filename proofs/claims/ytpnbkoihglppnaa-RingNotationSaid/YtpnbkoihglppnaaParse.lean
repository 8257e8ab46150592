/- ringing.Parse walked. -/
import Derived.Test.YtpnbkoihglppnaaChangeOf
import Derived.Test.YtpnbkoihglppnaaClip
namespace Go.Proofs.Ytpnbkoihglppnaa
open Go.RowKit Go.Sl

def nthb (l : List UInt8) (i : Nat) : UInt8 := l.getD i 0
theorem drop_nthb {l : List UInt8} {i : Nat} (h : i < l.length) : l.drop i = nthb l i :: l.drop (i + 1) := by
  rw [List.drop_eq_getElem_cons h]
  congr 1
  simp [nthb, h]
theorem take_while_len (p : UInt8 → Bool) : ∀ (l : List UInt8) (d : Nat), d ≤ l.length → (∀ j, j < d → p (nthb l j) = true) → (d = l.length ∨ p (nthb l d) = false) → (l.takeWhile p).length = d := by
  intro l
  induction l with
  | nil => intro d h _ _; simp at h; subst h; rfl
  | cons a t ih =>
    intro d h h1 h2
    cases d with
    | zero =>
      have ha : p a = false := by
        rcases h2 with h2 | h2
        · simp at h2
        · simpa [nthb] using h2
      simp [ha]
    | succ d =>
      have ha : p a = true := by simpa [nthb] using h1 0 (by omega)
      rw [List.takeWhile_cons, if_pos ha, List.length_cons, ih d (by simpa using h) (fun j hj => by simpa [nthb] using h1 (j + 1) (by omega)) (by
        rcases h2 with h2 | h2
        · left; simpa using h2
        · right; simpa [nthb] using h2)]
theorem nthb_drop (l : List UInt8) (i j : Nat) : nthb (l.drop i) j = nthb l (i + j) := by
  simp [nthb, List.getD_eq_getElem?_getD, List.getElem?_drop]
theorem tok_one {l : List UInt8} {i : Nat} (h : i < l.length) (h1 : nthb l i = 120) : tokLen (l.drop i) = 1 := by
  rw [drop_nthb h, tokLen_cons, if_pos h1]
theorem tok_end {l : List UInt8} {i k : Nat} (h : i < l.length) (h1 : nthb l i ≠ 120) (hk : i < k) (hkn : k ≤ l.length) (hall : ∀ j, i < j → j < k → tokP (nthb l j) = true) (he : k = l.length ∨ tokP (nthb l k) = false) : tokLen (l.drop i) = k - i := by
  rw [drop_nthb h, tokLen_cons, if_neg h1, take_while_len tokP (l.drop (i + 1)) (k - i - 1) (by rw [List.length_drop]; omega) (fun j hj => by rw [nthb_drop]; exact hall _ (by omega) (by omega)) (by
    rcases he with rfl | he
    · left; rw [List.length_drop]; omega
    · right; rw [nthb_drop, show i + 1 + (k - i - 1) = k by omega]; exact he)]
  omega
theorem skip_drop {l : List UInt8} {k : Nat} : skipDot (l.drop k) = if k < l.length ∧ nthb l k = 46 then l.drop (k + 1) else l.drop k := by
  by_cases hk : k < l.length
  · rw [drop_nthb hk, skipDot_cons]
    by_cases h : nthb l k = 46
    · rw [if_pos h, if_pos ⟨hk, h⟩]
    · rw [if_neg h, if_neg (fun x => h x.2)]
  · rw [List.drop_of_length_le (by omega), if_neg (fun x => hk x.1)]; rfl

theorem parse_next {l : List UInt8} {T : List (List UInt8)} {i K : Nat} (hi : i < l.length) (hk : i < K) (htok : tokLen (l.drop i) = K - i) (hT : T ++ toksL (l.drop i) = toksL l) : (T ++ [(l.drop i).take (K - i)]) ++ toksL (if K < l.length ∧ nthb l K = 46 then l.drop (K + 1) else l.drop K) = toksL l := by
  have hne : l.drop i ≠ [] := by
    intro h
    have := congrArg List.length h
    rw [List.length_drop, List.length_nil] at this
    omega
  rw [← hT, toksL_step hne, htok, List.drop_drop, show i + (K - i) = K by omega, skip_drop]
  simp
set_option maxRecDepth 100000 in
set_option maxHeartbeats 4000000 in
theorem parse_calls (m : Nat) (l : List UInt8) (w : World) (hm : m < 7) :
    Calls Try.prog 36 #[.int .i64 ((m : Int) + 1), .string ⟨l.toArray⟩] w fun e w' => ∃ v er, e = .returned (.tuple #[v, .int .i64 er]) ∧ (5040 < l.length ∧ er = 2 ∧ v = .slice none 0 0 ∨ l.length ≤ 5040 ∧ textL (m + 1) ((toksL l).map (fun t => ((chgOf m t : Nat) : Int))) ≠ l ∧ er = 8 ∧ v = .slice none 0 0 ∨ l.length ≤ 5040 ∧ textL (m + 1) ((toksL l).map (fun t => ((chgOf m t : Nat) : Int))) = l ∧ er = 0 ∧ OwnI w' w.heap.size v ((toksL l).map (fun t => ((chgOf m t : Nat) : Int)))) ∧ Below w.heap.size w w' := by
  obtain ⟨N, hN⟩ : ∃ N, l.length = N := ⟨_, rfl⟩
  have HN := Lib.hid hN
  rw [hN]
  have hsz : (ByteArray.mk l.toArray).size = N := by simp [ByteArray.size, hN]
  clear hN
  have n1 : ¬ (m : Int) + 1 < 1 := by omega
  have n2 : ¬ (m : Int) + 1 > 7 := by omega
  by_cases hbig : 5040 < N
  · have hbi : (5040 : Int) < (N : Int) := by omega
    have HBG := Lib.hid hbig; clear hbig
    go_enter Try.func36, Try.ntmps36
    go_wp2_with fail
    go_ret2
    exact ⟨_, _, rfl, .inl ⟨HBG.out, rfl, rfl⟩, Below.refl _ _⟩
  · have hbi : ¬ (5040 : Int) < (N : Int) := by omega
    have hN40 : (N : Int) ≤ 5040 := by omega
    have HBG := Lib.hid (show N ≤ 5040 by omega); clear hbig
    go_enter Try.func36, Try.ntmps36
    go_wp2_with fail
    go_loopw [6, 7] (fun out y wr => ∃ (i : Nat) (T : List (List UInt8)), i ≤ N ∧ y = .int .i64 i ∧ OwnI wr w.heap.size out (T.map (fun t => ((chgOf m t : Nat) : Int))) ∧ T ++ toksL (l.drop i) = toksL l ∧ T.length ≤ i ∧ Below w.heap.size w wr) (fun _ y _ => N - (intOf y).toNat)
    case atStart => exact ⟨0, [], Nat.zero_le _, rfl, ownI_nil _ _, by simp, Nat.le_refl _, Below.refl _ _⟩
    case round =>
      obtain ⟨i, T, hi, rfl, ho, hT, hTl, hbr⟩ := hrel
      have so := ho.isSl
      have hbs := hbr.size
      by_cases hlt : i < N
      · have hil : i < l.length := by rw [HN.out]; exact hlt
        obtain ⟨b, hb⟩ : ∃ b, nthb l i = b := ⟨_, rfl⟩
        have hget : (ByteArray.mk l.toArray)[i]'(by rw [hsz]; exact hlt) = b := by
          rw [← hb]; simp [nthb, hil]; rfl
        have HO := Lib.hid ho; have HT := Lib.hid hT; have HBR := Lib.hid hbr; have HB := Lib.hid hb
        clear ho hT hbr hb
        by_cases hx : b = 120
        · have hbn : ((b.toNat : Int) != 120) = false := by rw [hx]; rfl
          have htok : tokLen (l.drop i) = (i + 1) - i := by rw [tok_one hil (HB.out.trans hx)]; omega
          have HX := Lib.hid hx; clear hx
          have hkN : i + 1 ≤ N := hlt
          have hik : i < i + 1 := Nat.lt_succ_self i
          go_wp2_with fail
          have hex : (ByteArray.mk l.toArray).extract i (i+1) = ⟨((l.drop i).take ((i+1) - i)).toArray⟩ := Lib.extract_eq _ _ _
          have hnext := parse_next hil hik htok HT.out
          obtain ⟨tk, htk⟩ : ∃ tk, (l.drop i).take ((i+1) - i) = tk := ⟨_, rfl⟩
          rw [htk] at hex hnext
          rw [hex]
          have HNX := Lib.hid hnext; have HTOK := Lib.hid htok; have HTK := Lib.hid htk
          clear hnext htok hex htk
          refine (changeOf_calls m tk _ hm).mono ?_
          rintro e w2 ⟨rfl, hb2⟩
          have HO2 := Lib.hid (HO.out.below hb2); have HB02 := Lib.hid (Below.chain HBR.out hb2)
          have hbs2 := HB02.out.size
          clear hb2
          by_cases hkl : (i+1) < N
          · have hkll : (i+1) < l.length := by rw [HN.out]; exact hkl
            have hkli : ((i:Int)+1) < (N : Int) := by omega
            obtain ⟨b2, hb2⟩ : ∃ b2, nthb l ((i+1)) = b2 := ⟨_, rfl⟩
            have hget2 : (ByteArray.mk l.toArray)[(i+1)]'(by rw [hsz]; exact hkl) = b2 := by
              rw [← hb2]; simp [nthb, hkll]; rfl
            by_cases hy : b2 = 46
            · have hbn2 : ((b2.toNat : Int) == 46) = true := by rw [hy]; rfl
              rw [if_pos ⟨hkll, hb2.trans hy⟩] at HNX
              have HY := Lib.hid hy; have HB2 := Lib.hid hb2; clear hy hb2
              go_wp2_with (at_builtin; refine wpList_push (v := u6) rfl _ _ rfl rfl rfl HO2.out hbs2 (by have := HBG.out; simp; omega) ?_; intro out2 w3 ho3 hg3 hr3; have so3 := ho3.isSl; have hb3 := Below_of_grown HB02.out hg3 hbs2 (fun b hb => (HO2.out.lt b hb).1))
              exact ⟨⟨(i+1) + 1, T ++ [tk], by omega, by go_num, by rw [List.map_append]; exact ho3, HNX.out, by simp; omega, hb3⟩, by simp [intOf]; omega⟩
            · have hbn2 : ((b2.toNat : Int) == 46) = false := by
                have : b2.toNat ≠ 46 := fun h => hy (UInt8.toNat_inj.1 (by rw [h]; rfl))
                simp; omega
              rw [if_neg (fun h => hy (hb2.symm.trans h.2))] at HNX
              have HY := Lib.hid hy; have HB2 := Lib.hid hb2; clear hy hb2
              go_wp2_with (at_builtin; refine wpList_push (v := u6) rfl _ _ rfl rfl rfl HO2.out hbs2 (by have := HBG.out; simp; omega) ?_; intro out2 w3 ho3 hg3 hr3; have so3 := ho3.isSl; have hb3 := Below_of_grown HB02.out hg3 hbs2 (fun b hb => (HO2.out.lt b hb).1))
              exact ⟨⟨(i+1), T ++ [tk], by omega, by go_num, by rw [List.map_append]; exact ho3, HNX.out, by simp; omega, hb3⟩, by simp [intOf]; omega⟩
          · have hkli : ¬ ((i:Int)+1) < (N : Int) := by omega
            rw [if_neg (fun h => by have := HN.out; omega)] at HNX
            go_wp2_with (at_builtin; refine wpList_push (v := u6) rfl _ _ rfl rfl rfl HO2.out hbs2 (by have := HBG.out; simp; omega) ?_; intro out2 w3 ho3 hg3 hr3; have so3 := ho3.isSl; have hb3 := Below_of_grown HB02.out hg3 hbs2 (fun b hb => (HO2.out.lt b hb).1))
            exact ⟨⟨(i+1), T ++ [tk], by omega, by go_num, by rw [List.map_append]; exact ho3, HNX.out, by simp; omega, hb3⟩, by simp [intOf]; omega⟩
        · have hbn : ((b.toNat : Int) != 120) = true := by
            have : b.toNat ≠ 120 := fun h => hx (UInt8.toNat_inj.1 (by rw [h]; rfl))
            simp; omega
          have HX := Lib.hid hx; clear hx
          go_wp2_with fail
          go_loop [8] (fun z => ∃ k : Nat, i < k ∧ k ≤ N ∧ z = .int .i64 k ∧ ∀ j, i < j → j < k → tokP (nthb l j) = true) (fun z => N - (intOf z).toNat)
          case atStart => exact ⟨i + 1, by omega, by omega, by go_num, fun j h1 h2 => by omega⟩
          case round =>
            obtain ⟨k, hik, hkN, rfl, hall⟩ := hrel
            have HALL := Lib.hid hall; clear hall
            by_cases hkl0 : k < N
            · have hkll0 : k < l.length := by rw [HN.out]; exact hkl0
              obtain ⟨b1, hb1⟩ : ∃ b1, nthb l k = b1 := ⟨_, rfl⟩
              have hget1 : (ByteArray.mk l.toArray)[k]'(by rw [hsz]; exact hkl0) = b1 := by
                rw [← hb1]; simp [nthb, hkll0]; rfl
              by_cases h120 : b1 = 120
              · have hc1 : ((b1.toNat : Int) != 120) = false := by rw [h120]; rfl
                have htok : tokLen (l.drop i) = k - i := tok_end hil (fun h => HX.out (HB.out.symm.trans h)) hik (by rw [HN.out]; exact hkN) HALL.out (.inr (by rw [hb1, h120]; decide))
                have H120 := Lib.hid h120; have HB1 := Lib.hid hb1; clear h120 hb1
                go_wp2_with fail
                clear hget1 hc1
                have hkl := hkl0
                have hex : (ByteArray.mk l.toArray).extract i k = ⟨((l.drop i).take (k - i)).toArray⟩ := Lib.extract_eq _ _ _
                have hnext := parse_next hil hik htok HT.out
                obtain ⟨tk, htk⟩ : ∃ tk, (l.drop i).take (k - i) = tk := ⟨_, rfl⟩
                rw [htk] at hex hnext
                rw [hex]
                have HNX := Lib.hid hnext; have HTOK := Lib.hid htok; have HTK := Lib.hid htk
                clear hnext htok hex htk
                refine (changeOf_calls m tk _ hm).mono ?_
                rintro e w2 ⟨rfl, hb2⟩
                have HO2 := Lib.hid (HO.out.below hb2); have HB02 := Lib.hid (Below.chain HBR.out hb2)
                have hbs2 := HB02.out.size
                clear hb2
                have hkll : k < l.length := by rw [HN.out]; exact hkl
                have hkli : (k:Int) < (N : Int) := by omega
                obtain ⟨b2, hb2⟩ : ∃ b2, nthb l (k) = b2 := ⟨_, rfl⟩
                have hget2 : (ByteArray.mk l.toArray)[k]'(by rw [hsz]; exact hkl) = b2 := by
                  rw [← hb2]; simp [nthb, hkll]; rfl
                by_cases hy : b2 = 46
                · have hbn2 : ((b2.toNat : Int) == 46) = true := by rw [hy]; rfl
                  rw [if_pos ⟨hkll, hb2.trans hy⟩] at HNX
                  have HY := Lib.hid hy; have HB2 := Lib.hid hb2; clear hy hb2
                  go_wp2_with (at_builtin; refine wpList_push (v := u6) rfl _ _ rfl rfl rfl HO2.out hbs2 (by have := HBG.out; simp; omega) ?_; intro out2 w3 ho3 hg3 hr3; have so3 := ho3.isSl; have hb3 := Below_of_grown HB02.out hg3 hbs2 (fun b hb => (HO2.out.lt b hb).1))
                  exact ⟨⟨k + 1, T ++ [tk], by omega, by go_num, by rw [List.map_append]; exact ho3, HNX.out, by simp; omega, hb3⟩, by simp [intOf]; omega⟩
                · have hbn2 : ((b2.toNat : Int) == 46) = false := by
                    have : b2.toNat ≠ 46 := fun h => hy (UInt8.toNat_inj.1 (by rw [h]; rfl))
                    simp; omega
                  rw [if_neg (fun h => hy (hb2.symm.trans h.2))] at HNX
                  have HY := Lib.hid hy; have HB2 := Lib.hid hb2; clear hy hb2
                  go_wp2_with (at_builtin; refine wpList_push (v := u6) rfl _ _ rfl rfl rfl HO2.out hbs2 (by have := HBG.out; simp; omega) ?_; intro out2 w3 ho3 hg3 hr3; have so3 := ho3.isSl; have hb3 := Below_of_grown HB02.out hg3 hbs2 (fun b hb => (HO2.out.lt b hb).1))
                  exact ⟨⟨k, T ++ [tk], by omega, by go_num, by rw [List.map_append]; exact ho3, HNX.out, by simp; omega, hb3⟩, by simp [intOf]; omega⟩
              · have hc1 : ((b1.toNat : Int) != 120) = true := by
                  have : b1.toNat ≠ 120 := fun h => h120 (UInt8.toNat_inj.1 (by rw [h]; rfl))
                  simp; omega
                by_cases h46 : b1 = 46
                · have hc2 : ((b1.toNat : Int) != 46) = false := by rw [h46]; rfl
                  have htok : tokLen (l.drop i) = k - i := tok_end hil (fun h => HX.out (HB.out.symm.trans h)) hik (by rw [HN.out]; exact hkN) HALL.out (.inr (by rw [hb1, h46]; decide))
                  have H46 := Lib.hid h46; have HB1 := Lib.hid hb1; have H120 := Lib.hid h120; clear h46 hb1 h120
                  go_wp2_with fail
                  clear hget1 hc1 hc2
                  have hkl := hkl0
                  have hex : (ByteArray.mk l.toArray).extract i k = ⟨((l.drop i).take (k - i)).toArray⟩ := Lib.extract_eq _ _ _
                  have hnext := parse_next hil hik htok HT.out
                  obtain ⟨tk, htk⟩ : ∃ tk, (l.drop i).take (k - i) = tk := ⟨_, rfl⟩
                  rw [htk] at hex hnext
                  rw [hex]
                  have HNX := Lib.hid hnext; have HTOK := Lib.hid htok; have HTK := Lib.hid htk
                  clear hnext htok hex htk
                  refine (changeOf_calls m tk _ hm).mono ?_
                  rintro e w2 ⟨rfl, hb2⟩
                  have HO2 := Lib.hid (HO.out.below hb2); have HB02 := Lib.hid (Below.chain HBR.out hb2)
                  have hbs2 := HB02.out.size
                  clear hb2
                  have hkll : k < l.length := by rw [HN.out]; exact hkl
                  have hkli : (k:Int) < (N : Int) := by omega
                  obtain ⟨b2, hb2⟩ : ∃ b2, nthb l (k) = b2 := ⟨_, rfl⟩
                  have hget2 : (ByteArray.mk l.toArray)[k]'(by rw [hsz]; exact hkl) = b2 := by
                    rw [← hb2]; simp [nthb, hkll]; rfl
                  by_cases hy : b2 = 46
                  · have hbn2 : ((b2.toNat : Int) == 46) = true := by rw [hy]; rfl
                    rw [if_pos ⟨hkll, hb2.trans hy⟩] at HNX
                    have HY := Lib.hid hy; have HB2 := Lib.hid hb2; clear hy hb2
                    go_wp2_with (at_builtin; refine wpList_push (v := u6) rfl _ _ rfl rfl rfl HO2.out hbs2 (by have := HBG.out; simp; omega) ?_; intro out2 w3 ho3 hg3 hr3; have so3 := ho3.isSl; have hb3 := Below_of_grown HB02.out hg3 hbs2 (fun b hb => (HO2.out.lt b hb).1))
                    exact ⟨⟨k + 1, T ++ [tk], by omega, by go_num, by rw [List.map_append]; exact ho3, HNX.out, by simp; omega, hb3⟩, by simp [intOf]; omega⟩
                  · have hbn2 : ((b2.toNat : Int) == 46) = false := by
                      have : b2.toNat ≠ 46 := fun h => hy (UInt8.toNat_inj.1 (by rw [h]; rfl))
                      simp; omega
                    rw [if_neg (fun h => hy (hb2.symm.trans h.2))] at HNX
                    have HY := Lib.hid hy; have HB2 := Lib.hid hb2; clear hy hb2
                    go_wp2_with (at_builtin; refine wpList_push (v := u6) rfl _ _ rfl rfl rfl HO2.out hbs2 (by have := HBG.out; simp; omega) ?_; intro out2 w3 ho3 hg3 hr3; have so3 := ho3.isSl; have hb3 := Below_of_grown HB02.out hg3 hbs2 (fun b hb => (HO2.out.lt b hb).1))
                    exact ⟨⟨k, T ++ [tk], by omega, by go_num, by rw [List.map_append]; exact ho3, HNX.out, by simp; omega, hb3⟩, by simp [intOf]; omega⟩
                · have hc2 : ((b1.toNat : Int) != 46) = true := by
                    have : b1.toNat ≠ 46 := fun h => h46 (UInt8.toNat_inj.1 (by rw [h]; rfl))
                    simp; omega
                  have hp : tokP (nthb l k) = true := by rw [hb1]; unfold tokP; simp [h120, h46]
                  have HP := Lib.hid hp; have H46 := Lib.hid h46; have HB1 := Lib.hid hb1; have H120 := Lib.hid h120; clear h46 hb1 h120 hp
                  go_wp2_with fail
                  refine ⟨⟨k + 1, by omega, by omega, by go_num, fun j h1 h2 => ?_⟩, by simp [intOf]; omega⟩
                  rcases Nat.lt_or_ge j k with h | h
                  · exact HALL.out j h1 h
                  · obtain rfl : j = k := by omega
                    exact HP.out
            · have htok : tokLen (l.drop i) = k - i := tok_end hil (fun h => HX.out (HB.out.symm.trans h)) hik (by rw [HN.out]; exact hkN) HALL.out (.inl (by rw [HN.out]; omega))
              go_wp2_with fail
              have hkl := hkl0
              have hex : (ByteArray.mk l.toArray).extract i k = ⟨((l.drop i).take (k - i)).toArray⟩ := Lib.extract_eq _ _ _
              have hnext := parse_next hil hik htok HT.out
              obtain ⟨tk, htk⟩ : ∃ tk, (l.drop i).take (k - i) = tk := ⟨_, rfl⟩
              rw [htk] at hex hnext
              rw [hex]
              have HNX := Lib.hid hnext; have HTOK := Lib.hid htok; have HTK := Lib.hid htk
              clear hnext htok hex htk
              refine (changeOf_calls m tk _ hm).mono ?_
              rintro e w2 ⟨rfl, hb2⟩
              have HO2 := Lib.hid (HO.out.below hb2); have HB02 := Lib.hid (Below.chain HBR.out hb2)
              have hbs2 := HB02.out.size
              clear hb2
              have hkli : ¬ (k:Int) < (N : Int) := by omega
              rw [if_neg (fun h => by have := HN.out; omega)] at HNX
              go_wp2_with (at_builtin; refine wpList_push (v := u6) rfl _ _ rfl rfl rfl HO2.out hbs2 (by have := HBG.out; simp; omega) ?_; intro out2 w3 ho3 hg3 hr3; have so3 := ho3.isSl; have hb3 := Below_of_grown HB02.out hg3 hbs2 (fun b hb => (HO2.out.lt b hb).1))
              exact ⟨⟨k, T ++ [tk], by omega, by go_num, by rw [List.map_append]; exact ho3, HNX.out, by simp; omega, hb3⟩, by simp [intOf]; omega⟩
      · have hi' : i = N := by omega
        subst hi'
        have hdr : l.drop i = [] := List.drop_of_length_le (by rw [HN.out]; exact Nat.le_refl _)
        rw [hdr, toksL_nil, List.append_nil] at hT
        rw [hT] at ho
        have hZl : ((toksL l).map (fun t => ((chgOf m t : Nat) : Int))).length ≤ 5040 := by
          rw [List.length_map, ← hT]; have := HBG.out; omega
        have hZc : ∀ c ∈ (toksL l).map (fun t => ((chgOf m t : Nat) : Int)), Chg m c := fun c hc => by
          obtain ⟨t, _, rfl⟩ := List.mem_map.1 hc
          exact chgOf_right hm t
        obtain ⟨Z, hZ⟩ : ∃ Z, Z = (toksL l).map (fun t => ((chgOf m t : Nat) : Int)) := ⟨_, rfl⟩
        rw [← hZ] at ho hZl hZc
        have HO := Lib.hid ho; have HBR := Lib.hid hbr; have HZ := Lib.hid hZ; have HZL := Lib.hid hZl; have HZC := Lib.hid hZc
        clear ho hT hbr hZ hZl hZc hdr
        go_wp2_with fail
        refine (text_calls m _ Z _ HO.out.ints hm HZC.out HZL.out).mono ?_
        rintro e w2 ⟨rfl, hb2⟩
        have HO2 := Lib.hid (HO.out.below hb2); have HB02 := Lib.hid (Below.chain HBR.out hb2)
        clear hb2
        have hE := bytes_eq (textL (m + 1) Z) l
        obtain ⟨X, hX⟩ : ∃ X, textL (m + 1) Z = X := ⟨_, rfl⟩
        rw [hX] at hE ⊢
        simp only [ByteArray.toList_mk] at hE
        by_cases he : X = l
        · rw [decide_eq_true he] at hE
          have HE := Lib.hid he; have HX := Lib.hid hX; clear he hX
          go_wp2_with fail
          refine (clip_calls _ _ _ _ HO2.out).mono ?_
          rintro e w3 ⟨rfl, v3, rfl, hv3⟩
          have sv3 := hv3.isSl
          have HV3 := Lib.hid hv3; clear hv3
          go_wp2_with fail
          go_ret2
          refine ⟨_, _, rfl, .inr (.inr ⟨HBG.out, ?_, rfl, ?_⟩), HB02.out⟩
          · rw [← HZ.out, HX.out]; exact HE.out
          · rw [← HZ.out]; exact HV3.out
        · rw [decide_eq_false he] at hE
          have HE := Lib.hid he; have HX := Lib.hid hX; clear he hX
          go_wp2_with fail
          go_ret2
          refine ⟨_, _, rfl, .inr (.inl ⟨HBG.out, ?_, rfl, rfl⟩), HB02.out⟩
          rw [← HZ.out, HX.out]; exact HE.out
end Go.Proofs.Ytpnbkoihglppnaa

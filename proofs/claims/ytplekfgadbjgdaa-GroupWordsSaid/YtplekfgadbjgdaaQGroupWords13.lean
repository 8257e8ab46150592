/- The closure of GroupWords: the value of a word of generators, walked. -/
import Derived.Test.YtplekfgadbjgdaaQGroupWords0
import Derived.Test.YtplekfgadbjgdaaQGroupWords1
import Derived.Test.YtplekfgadbjgdaaQGroupWords2
import Derived.Test.YtplekfgadbjgdaaQGroupWords4
import Derived.Test.YtplekfgadbjgdaaQGroupWords5
import Derived.Test.YtplekfgadbjgdaaQGroupWords6
import Derived.Test.YtplekfgadbjgdaaQGroupWords7
import Derived.Test.YtplekfgadbjgdaaQGroupWords9

namespace Go.Proofs.Ytplekfgadbjgdaa
open Go.RowKit Go.Sl

theorem valL_take (n : Nat) (S : List (List Int)) (X : List Int) {i : Nat} (h : i < X.length) : valL n S (X.take (i + 1)) = thenL (valL n S (X.take i)) (genL S (nth X i)) := by
  rw [List.take_succ_eq_append_getElem h, valL_snoc, nth_lt h]

set_option maxHeartbeats 4000000 in
set_option maxRecDepth 100000 in
theorem gvalue_calls (n nb lb : Nat) (lv : Value) (vs : List Value) (S : List (List Int)) (xv : Value) (X : List Int) (w : World) (hnb : w.heap[nb]? = some (.cells #[.int .i64 n] 3 (0, 0))) (hlb : w.heap[lb]? = some (.cells #[lv] 24 (0, 0))) (hr : RowsV w lv vs S) (hS : ∀ g ∈ S, Pm n g) (hx : Ints w xv X) (hX : ∀ x ∈ X, okL S x) (hn : n ≤ 9) (hl : S.length ≤ 6) :
    Calls Try.prog 35 #[xv, .pointer (some ⟨nb, 0, none⟩), .pointer (some ⟨lb, 0, none⟩)] w fun e w' => ∃ v, e = .returned v ∧ Ints w' v (valL n S X) ∧ Below w.heap.size w w' := by
  have sx := hx.isSl
  have lx := hx.len
  have i63 := sx.i63
  have sl := hr.isSl
  have ll := hr.len
  have lnb : nb < w.heap.size := (Array.getElem?_eq_some_iff.1 hnb).1
  have llb : lb < w.heap.size := (Array.getElem?_eq_some_iff.1 hlb).1
  have c0 := cell_of_one hnb
  obtain ⟨L, hL⟩ : ∃ L, X.length = L := ⟨_, rfl⟩
  obtain ⟨m, hm⟩ : ∃ m, S.length = m := ⟨_, rfl⟩
  rw [hL] at lx
  rw [lx] at i63
  rw [hm] at ll hl
  have HNB := Lib.hid hnb; have HLB := Lib.hid hlb; have HR := Lib.hid hr; have HS := Lib.hid hS; have HX := Lib.hid hx; have HO := Lib.hid hX; have HL := Lib.hid hL; have HM := Lib.hid hm
  clear hnb hlb hr hS hx hX hL hm
  go_enter Try.func35, Try.ntmps35
  go_wp2_with fail
  refine (perm_calls n (.slice none 0 0) [] w (ints_nil _) (by omega) (fun z hz => by simp at hz)).mono ?_
  rw [permL_nil]
  rintro e w1 ⟨p0, rfl, hp, hb⟩
  have HP0 := Lib.hid hp.ints; have HB0 := Lib.hid hb
  clear hp hb
  go_wp2_with fail
  go_loopw [5, 13] (fun p s wr => ∃ i : Nat, s = .int .i64 i ∧ i ≤ L ∧ Ints wr p (valL n S (X.take i)) ∧ Below w.heap.size w wr) (fun _ s _ => L - (intOf s).toNat)
  case atStart => exact ⟨0, rfl, Nat.zero_le _, HP0.out, HB0.out⟩
  case round =>
    obtain ⟨i, rfl, hi, hp, hb⟩ := hrel
    have HP := Lib.hid hp; have HB := Lib.hid hb
    clear hp hb
    by_cases hlt : i < L
    · have hiX : i < X.length := by rw [HL.out]; exact hlt
      obtain ⟨x, hx⟩ : ∃ x, nth X i = x := ⟨_, rfl⟩
      have hox : okL S x := by rw [← hx]; exact HO.out _ (nth_mem hiX)
      have hx1 := hox.1
      have hx2 := hox.2
      rw [HM.out] at hx2
      have hgen : genL S x = if x < 0 then backL (nthr S (x.natAbs - 1)) else nthr S (x.natAbs - 1) := rfl
      have hstep := valL_take n S X hiX
      rw [hx] at hstep
      have hgP := genL_pm HS.out hox
      have hvP := (valL_gen (n := n) (S := S) (X.take i) (fun x hx => HO.out x (List.mem_of_mem_take hx))).pm (by omega) HS.out
      have cx := (HX.out.below HB.out).cell hiX
      rw [hx] at cx
      have cl := cell_of_one ((HB.out.block _ llb).trans HLB.out)
      obtain ⟨k, hk⟩ : ∃ k, x.natAbs - 1 = k := ⟨_, rfl⟩
      have hkm : k < S.length := by rw [HM.out]; omega
      have hRR := HR.out.below HB.out
      have cr := hRR.cell hkm
      have hrow := hRR.row hkm
      have srow := hrow.isSl
      have hgm := HS.out _ (nthr_mem hkm)
      have hmax : max x (-x) - 1 = (k : Int) := by omega
      rw [hk] at hgen
      have HG := Lib.hid hgen; have HST := Lib.hid hstep; have HGP := Lib.hid hgP; have HVP := Lib.hid hvP; have HROW := Lib.hid hrow; have HGM := Lib.hid hgm; have HK := Lib.hid hk; have HXX := Lib.hid hx; have HOX := Lib.hid hox
      clear hgen hstep hgP hvP hrow hgm hk hx hox hRR
      have sp := HP.out.isSl
      have hxi : -10 ≤ x ∧ x ≤ 10 := by omega
      by_cases hneg : x < 0
      · go_wp2_with fail
        refine (inverse_calls _ _ _ HROW.out HGM.out.1 (by rw [HGM.out.2]; exact hn)).mono ?_
        rintro e w3 ⟨g3, rfl, hg3, hb3⟩
        have HG3 := Lib.hid hg3; have HB3 := Lib.hid hb3
        clear hg3 hb3
        go_wp2_with fail
        refine (composeK_calls _ _ _ _ _ (HP.out.below HB3.out) HG3.out.ints HVP.out.1 HGM.out.1.back (by rw [HVP.out.2, HGM.out.back.2]) (by rw [HVP.out.2]; exact hn)).mono ?_
        rintro e w4 ⟨p4, rfl, hp4, hb4⟩
        have HP4 := Lib.hid hp4; have HB4 := Lib.hid hb4
        clear hp4 hb4
        go_wp2_with fail
        go_roundw
        case rel => exact ⟨i + 1, rfl, by omega, by rw [HST.out, HG.out, if_pos hneg]; exact HP4.out, Below.chain (Below.chain HB.out HB3.out) HB4.out⟩
        case measure => (simp [intOf]; try omega)
      · go_wp2_with fail
        refine (composeK_calls _ _ _ _ _ HP.out HROW.out HVP.out.1 HGM.out.1 (by rw [HVP.out.2, HGM.out.2]) (by rw [HVP.out.2]; exact hn)).mono ?_
        rintro e w4 ⟨p4, rfl, hp4, hb4⟩
        have HP4 := Lib.hid hp4; have HB4 := Lib.hid hb4
        clear hp4 hb4
        go_wp2_with fail
        go_roundw
        case rel => exact ⟨i + 1, rfl, by omega, by rw [HST.out, HG.out, if_neg (by omega)]; exact HP4.out, Below.chain HB.out HB4.out⟩
        case measure => (simp [intOf]; try omega)
    · obtain rfl : i = L := by omega
      have hp := HP.out
      rw [List.take_of_length_le (by rw [HL.out]; omega)] at hp
      have HP1 := Lib.hid hp
      clear hp
      go_wp2_with fail
      go_ret
      exact ⟨_, rfl, HP1.out, HB.out⟩
end Go.Proofs.Ytplekfgadbjgdaa


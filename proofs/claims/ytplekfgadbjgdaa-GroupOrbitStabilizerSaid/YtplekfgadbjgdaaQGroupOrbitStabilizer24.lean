/- groupOrbitStabilizer: for every input the statement returns true, and nothing that was there has changed. -/
import Derived.Test.YtplekfgadbjgdaaQGroupOrbitStabilizer0
import Derived.Test.YtplekfgadbjgdaaQGroupOrbitStabilizer1
import Derived.Test.YtplekfgadbjgdaaQGroupOrbitStabilizer2
import Derived.Test.YtplekfgadbjgdaaQGroupOrbitStabilizer3
import Derived.Test.YtplekfgadbjgdaaQGroupOrbitStabilizer4
import Derived.Test.YtplekfgadbjgdaaQGroupOrbitStabilizer5
import Derived.Test.YtplekfgadbjgdaaQGroupOrbitStabilizer6
import Derived.Test.YtplekfgadbjgdaaQGroupOrbitStabilizer7
import Derived.Test.YtplekfgadbjgdaaQGroupOrbitStabilizer8
import Derived.Test.YtplekfgadbjgdaaQGroupOrbitStabilizer9
import Derived.Test.YtplekfgadbjgdaaQGroupOrbitStabilizer10
import Derived.Test.YtplekfgadbjgdaaQGroupOrbitStabilizer11
import Derived.Test.YtplekfgadbjgdaaQGroupOrbitStabilizer12
import Derived.Test.YtplekfgadbjgdaaQGroupOrbitStabilizer13
import Derived.Test.YtplekfgadbjgdaaQGroupOrbitStabilizer14
import Derived.Test.YtplekfgadbjgdaaQGroupOrbitStabilizer15
import Derived.Test.YtplekfgadbjgdaaQGroupOrbitStabilizer16
import Derived.Test.YtplekfgadbjgdaaQGroupOrbitStabilizer17
import Derived.Test.YtplekfgadbjgdaaQGroupOrbitStabilizer18
import Derived.Test.YtplekfgadbjgdaaQGroupOrbitStabilizer19
import Derived.Test.YtplekfgadbjgdaaQGroupOrbitStabilizer20
import Derived.Test.YtplekfgadbjgdaaQGroupOrbitStabilizer21
import Derived.Test.YtplekfgadbjgdaaQGroupOrbitStabilizer22
import Derived.Test.YtplekfgadbjgdaaQGroupOrbitStabilizer23

namespace Go.Proofs.Ytplekfgadbjgdaa
open Go.RowKit Go.Sl

theorem perms_pmO {n : Nat} (hn : n ≤ 9) (R : List (List Int)) : ∀ g ∈ R.map (permL n), Pm n g := fun g hg => by
  obtain ⟨r, _, rfl⟩ := List.mem_map.1 hg
  exact ⟨permL_isPerm r (by omega), permL_length n r⟩
/-- How many points lie in the first rows. -/
def upTo (out : List (List Int)) (a : Nat) : Nat := (out.take a).flatten.length
theorem upTo_succ {out : List (List Int)} {a : Nat} (h : a < out.length) : upTo out (a + 1) = upTo out a + (nthr out a).length := by
  unfold upTo
  rw [List.take_succ_eq_append_getElem h, List.flatten_append, List.length_append, nthr_lt h]; simp
theorem upTo_le {out : List (List Int)} {a b : Nat} (h : a ≤ b) : upTo out a ≤ upTo out b := by
  unfold upTo
  obtain ⟨c, rfl⟩ : ∃ c, b = a + c := ⟨b - a, by omega⟩
  rw [List.take_add, List.flatten_append, List.length_append]
  exact Nat.le_add_right _ _
theorem upTo_all {n : Nat} {S : List (List Int)} {out : List (List Int)} (h : AllOrbs n S out) : upTo out out.length = n := by
  unfold upTo
  rw [List.take_of_length_le (Nat.le_refl _), h.total]

set_option maxHeartbeats 8000000 in
set_option maxRecDepth 100000 in
theorem groupOrbitStabilizer_true {w0 : World} (n0 : Int) (hn0 : I64 n0) (raw : Value) (xss : List (List Int)) (hr0 : Rows2 w0 raw xss) (hx0 : ∀ r ∈ xss, ∀ x ∈ r, I64 x) (w : World) (hw : w = w0 := by rfl) :
    Calls Try.prog 7 #[.int .i64 n0, raw] w fun e w' => e = .returned (.bool true) ∧ Below w.heap.size w w' := by
  subst hw
  obtain ⟨rvs, hrv⟩ := hr0
  have sr := hrv.isSl
  obtain ⟨n, hN⟩ : ∃ n : Nat, n0 % 8 = (n : Int) := ⟨(n0 % 8).toNat, by omega⟩
  have hn9 : n ≤ 9 := by omega
  obtain ⟨S, hS⟩ : ∃ S, (xss.take 3).map (permL n) = S := ⟨_, rfl⟩
  have hSpm : ∀ g ∈ S, Pm n g := by rw [← hS]; exact perms_pmO hn9 _
  have hSl : S.length ≤ 6 := by rw [← hS, List.length_map, List.length_take]; omega
  have HN := Lib.hid hN; have HRV := Lib.hid hrv; have HX := Lib.hid hx0; have HS := Lib.hid hS; have HP := Lib.hid hSpm; have HSL := Lib.hid hSl
  clear hN hrv hx0 hS hSpm hSl
  go_enter Try.func7, Try.ntmps7
  go_wp2_with fail
  refine (below_calls n0 8 w (by decide) (by decide) hn0).mono ?_
  rw [HN.out]
  rintro e w' ⟨rfl, rfl⟩
  go_wp2_with fail
  refine (perms_calls n 3 raw rvs xss _ HRV.out HX.out hn9 (by decide)).mono ?_
  rw [HS.out]
  rintro e w1 ⟨lv, rfl, hl, hb⟩
  obtain ⟨vs, hv⟩ := hl.own.rows
  have sl := hv.isSl
  have HV := Lib.hid hv; have HB := Lib.hid hb
  clear hl hv hb
  go_wp2_with fail
  refine (gorder_calls n lv vs S _ HV.out HP.out hn9 HSL.out).mono ?_
  rintro e w2 ⟨m, rfl, hm, hmb, hb⟩
  have HM := Lib.hid hm
  replace HV := Lib.hid (HV.out.below hb); replace HB := Lib.hid (Below.chain HB.out hb)
  clear hm hb
  go_wp2_with fail
  refine (orbitsX_calls n lv vs S _ HV.out HP.out hn9 HSL.out).mono ?_
  rintro e w3 ⟨ov, ovs, out, rfl, ho, ha, hol, hb⟩
  have hor := ho.rows
  have so := hor.isSl
  have lo := hor.len
  replace HV := Lib.hid (HV.out.below hb); replace HB := Lib.hid (Below.chain HB.out hb)
  obtain ⟨O, hO⟩ : ∃ O, out.length = O := ⟨_, rfl⟩
  have hall := upTo_all ha
  rw [hO] at lo hol hall
  have HO := Lib.hid hor; have HA := Lib.hid ha; have HOL := Lib.hid hO; have HALL := Lib.hid hall
  clear ho ha hb hor hO hall
  go_wp2_with fail
  go_loopw [10, 36] (fun c s wr => ∃ a : Nat, s = .int .i64 a ∧ a ≤ O ∧ c = .int .i64 (upTo out a : Nat) ∧ Below w3.heap.size w3 wr) (fun _ s _ => O - (intOf s).toNat)
  case atStart => exact ⟨0, rfl, Nat.zero_le _, rfl, Below.refl _ _⟩
  case round =>
    obtain ⟨a, rfl, ha, rfl, hb⟩ := hrel
    have HB1 := Lib.hid hb
    clear hb
    by_cases hlt : a < O
    · have haO : a < out.length := by rw [HOL.out]; exact hlt
      have c1 := (HO.out.below HB1.out).cell haO
      have rr := (HO.out.below HB1.out).row haO
      have horb := HA.out.orbs.each _ (nthr_mem haO)
      have hup := upTo_succ haO
      obtain ⟨r, hr⟩ : ∃ r, nthv ovs a = r := ⟨_, rfl⟩
      obtain ⟨o, hoe⟩ : ∃ o, nthr out a = o := ⟨_, rfl⟩
      rw [hr] at c1 rr
      rw [hoe] at rr horb hup
      have srr := rr.isSl
      have lr := rr.len
      have hL9 := horb.len_le
      obtain ⟨L, hL⟩ : ∃ L, o.length = L := ⟨_, rfl⟩
      rw [hL] at lr hL9 hup
      obtain ⟨U, hU⟩ : ∃ U, upTo out a = U := ⟨_, rfl⟩
      rw [hU] at hup ⊢
      have hU100 : U ≤ 100 := by
        have h1 : upTo out a ≤ upTo out O := by
          exact upTo_le ha
        rw [HALL.out] at h1
        omega
      have hr3 : Ints w3 r o := by have := HO.out.row haO; rw [hr, hoe] at this; exact this
      have HR := Lib.hid hr3; have HORB := Lib.hid horb; have HL := Lib.hid hL; have HUP := Lib.hid hup
      clear rr hr hoe horb hL hup hU hr3
      rename World => wz
      go_wp2_with fail
      go_loopw [10, 42] (fun c s wr => ∃ b : Nat, s = .int .i64 b ∧ b ≤ L ∧ c = .int .i64 ((U + b : Nat) : Int) ∧ Below w3.heap.size w3 wr) (fun _ s _ => L - (intOf s).toNat)
      case atStart => exact ⟨0, rfl, Nat.zero_le _, rfl, HB1.out⟩
      case round =>
        obtain ⟨b, rfl, hbL, rfl, hb⟩ := hrel
        have HB2 := Lib.hid hb
        clear hb
        by_cases hltb : b < L
        · have hbo : b < o.length := by rw [HL.out]; exact hltb
          have cx := (HR.out.below HB2.out).cell hbo
          have hxm := nth_mem hbo
          have hxr := HORB.out.rng _ hxm
          obtain ⟨x, hx⟩ : ∃ x, nth o b = x := ⟨_, rfl⟩
          rw [hx] at cx hxm hxr
          obtain ⟨p, rfl⟩ : ∃ p : Nat, x = (p : Int) := ⟨x.toNat, by omega⟩
          have hpn : p < n := by omega
          have HXM := Lib.hid hxm
          clear hx hxm hxr
          go_wp2_with fail
          refine (stab_calls n lv vs S p m _ (HV.out.below HB2.out) HP.out hn9 HSL.out hpn HM.out).mono ?_
          rintro e w4 ⟨k, o2, rfl, horb2, hp2, hmk, hmb2, hb⟩
          have hlen := (HORB.out.same horb2 HXM.out hp2).length_eq
          rw [HL.out] at hlen
          rw [← hlen] at hmk
          have hkL : (k : Int) * (L : Int) = (m : Int) := by rw [hmk]; simp
          have hw2 : IntKind.i64.wrap ((k : Int) * (L : Int)) = (m : Int) := by rw [hkL]; exact IntWalk.i64_in _ ⟨by omega, by omega⟩
          have HB3 := Lib.hid (Below.chain HB2.out hb)
          have hw3 : IntKind.i64.wrap (((U + b : Nat) : Int) + 1) = ((U + b + 1 : Nat) : Int) := by rw [show ((U + b : Nat) : Int) + 1 = ((U + b + 1 : Nat) : Int) by omega]; exact IntWalk.i64_in _ ⟨by omega, by omega⟩
          clear hb horb2 hp2 hmk hlen hkL
          go_wp2_with fail
          go_roundw
          case rel => exact ⟨b + 1, by go_num, hltb, by first | rfl | exact congrArg (Value.int .i64) (by omega), HB3.out⟩
          case measure => (simp [intOf]; try omega)
        · obtain rfl : b = L := by omega
          go_wp2_with fail
          go_roundw
          case rel => exact ⟨a + 1, by go_num, hlt, by rw [HUP.out], HB2.out⟩
          case measure => (simp [intOf]; try omega)
    · obtain rfl : a = O := by omega
      rw [HALL.out]
      go_wp2_with fail
      refine (grouped_calls _).mono ?_
      rintro e w5 ⟨rfl, hb⟩
      have HB2 := Lib.hid (Below.chain HB.out (Below.chain HB1.out hb))
      clear hb
      go_wp2_with fail
      go_ret
      exact ⟨rfl, HB2.out⟩
end Go.Proofs.Ytplekfgadbjgdaa


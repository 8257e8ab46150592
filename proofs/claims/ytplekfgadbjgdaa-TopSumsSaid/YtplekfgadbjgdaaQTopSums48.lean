/- coloring.Count walked, for every right word. -/
import Derived.Test.YtplekfgadbjgdaaQTopSums0
import Derived.Test.YtplekfgadbjgdaaQTopSums1
import Derived.Test.YtplekfgadbjgdaaQTopSums3
import Derived.Test.YtplekfgadbjgdaaQTopSums4
import Derived.Test.YtplekfgadbjgdaaQTopSums5
import Derived.Test.YtplekfgadbjgdaaQTopSums6
import Derived.Test.YtplekfgadbjgdaaQTopSums7
import Derived.Test.YtplekfgadbjgdaaQTopSums8
import Derived.Test.YtplekfgadbjgdaaQTopSums10
import Derived.Test.YtplekfgadbjgdaaQTopSums15
import Derived.Test.YtplekfgadbjgdaaQTopSums16
import Derived.Test.YtplekfgadbjgdaaQTopSums17
import Derived.Test.YtplekfgadbjgdaaQTopSums18
import Derived.Test.YtplekfgadbjgdaaQTopSums19
import Derived.Test.YtplekfgadbjgdaaQTopSums21
import Derived.Test.YtplekfgadbjgdaaQTopSums22
import Derived.Test.YtplekfgadbjgdaaQTopSums25
import Derived.Test.YtplekfgadbjgdaaQTopSums26
import Derived.Test.YtplekfgadbjgdaaQTopSums46
import Derived.Test.YtplekfgadbjgdaaQTopSums47
import Derived.RangeFuncNested
import Derived.RangeFuncCalls
import Derived.OrdersIn
import Derived.OrdersHeld
import Derived.Deep.RegionHeld
import Derived.Shelf.Strings.Builder1
import Derived.RangeFuncBound
import Derived.RangeFuncLeaves
import Derived.RangeFuncBox
import Derived.Shelf.Abstract
import Derived.Shelf.RegionOpen
import Derived.OwnWalkIn
import Derived.TacticsInMore
import Derived.LoopNIn
import Derived.LoopIn
import Derived.Maps.AppendAt
import Derived.Deep.RegionLaw
namespace Go.Proofs.Ytplekfgadbjgdaa
open Go.RowKit Go.Sl

/-- One point colored. -/
def unitC (n : Nat) (e : Int) (k : Nat) : List Int := (List.replicate n 0).set k e
/-- The colors at the end less those at the beginning. -/
def colF (M : Nat) (n : Nat) (e : Int) (X : List Int) (i k : Nat) : Int := nth (prop M (unitC n e k) X) i - nth (unitC n e k) i
def colP (M : Nat) (n : Nat) (e : Int) (X : List Int) (k j i c : Nat) : Int := if c < k ∨ c = k ∧ i < j then colF M n e X i c else 0
theorem colP_start (M n : Nat) (e : Int) (X : List Int) : matI n (colP M n e X 0 0) = matI n fun _ _ => 0 := matI_congr fun u v _ _ => by unfold colP; rw [if_neg (by omega)]
theorem colP_end (M n : Nat) (e : Int) (X : List Int) : matI n (colP M n e X n 0) = matI n (colF M n e X) := matI_congr fun u v _ hv => by unfold colP; rw [if_pos (.inl hv)]
theorem colP_row (M n : Nat) (e : Int) (X : List Int) (k : Nat) : matI n (colP M n e X k n) = matI n (colP M n e X (k + 1) 0) := matI_congr fun u v hu _ => by
  unfold colP
  by_cases h : v < k ∨ v = k ∧ u < n
  · rw [if_pos h, if_pos (by omega)]
  · rw [if_neg h, if_neg (by omega)]
theorem colP_step (M n : Nat) (e : Int) (X : List Int) (k j : Nat) : matI n (fun u v => if u = j ∧ v = k then colF M n e X j k else colP M n e X k j u v) = matI n (colP M n e X k (j + 1)) := matI_congr fun u v _ _ => by
  unfold colP
  by_cases h : u = j ∧ v = k
  · obtain ⟨rfl, rfl⟩ := h; rw [if_pos ⟨rfl, rfl⟩, if_pos (by omega)]
  · rw [if_neg h]
    by_cases h2 : v < k ∨ v = k ∧ u < j
    · rw [if_pos h2, if_pos (by omega)]
    · rw [if_neg h2, if_neg (by omega)]
theorem unitC_length (n : Nat) (e : Int) (k : Nat) : (unitC n e k).length = n := by simp [unitC]
theorem unitC_colors {M n : Nat} {e : Int} (k : Nat) (h0 : 0 ≤ e) (h1 : e < M) : Colors M (unitC n e k) := fun x hx => by
  rcases mem_set_cases hx with h | h
  · omega
  · have := (List.mem_replicate.1 h).2; omega
theorem colF_bound {M n : Nat} {e : Int} {X : List Int} (h0 : 0 ≤ e) (h1 : e < M) (hX : ∀ x ∈ X, x.natAbs < n) {i k : Nat} (hi : i < n) : -M < colF M n e X i k ∧ colF M n e X i k < M := by
  have hc := unitC_colors (n := n) k h0 h1
  have hp := prop_colors (m := M) (by omega) hc (w := X) (by rw [unitC_length]; exact hX)
  have a := hc _ (nth_mem (k := i) (by rw [unitC_length]; exact hi))
  have b := hp _ (nth_mem (k := i) (by rw [prop_length, unitC_length]; exact hi))
  unfold colF
  omega

set_option maxHeartbeats 4000000 in
set_option maxRecDepth 100000 in
theorem count_calls2 (n M : Nat) (vw : Value) (X : List Int) (w : World) (hw : Ints w vw X) (hn : 2 ≤ n) (hn6 : n ≤ 6) (hM : 0 < M) (hM13 : M ≤ 13) (hbw : BWord (n : Int) X) (hl : X.length ≤ 30) (e1 : Int) (he1 : (1 : Int) % (M : Int) = e1) :
    Calls Try.prog 74 #[.int .i64 n, vw, .int .i64 M] w fun e w' => e = .returned (.tuple #[.int .i64 (solL (smithL (matI n (colF M n e1 X)) n n) M n), .int .i64 0]) ∧ Below w.heap.size w w' := by
  have sw := hw.isSl
  have h0 : 0 ≤ e1 := by rw [← he1]; exact Int.emod_nonneg _ (by omega)
  have h1 : e1 < M := by rw [← he1]; exact Int.emod_lt_of_pos _ (by omega)
  have het : (1 : Int).tmod (M : Int) = e1 := by rw [Int.tmod_eq_emod_of_nonneg (by omega)]; exact he1
  have hmat : IsMat (matI n (colF M n e1 X)) n n := ⟨matI_length _ _, fun i hi => row_matI_length hi, fun i hi j hj => by
    rw [nthr_matI hi, nth_row hj]
    have := colF_bound (n := n) (X := X) (k := j) h0 h1 (fun x hx => by have := hbw x hx; omega) hi
    omega, hn6, hn6⟩
  have HB := Lib.hid (fun i k (hi : i < n) => colF_bound (M := M) (n := n) (X := X) (k := k) h0 h1 (fun x hx => by have := hbw x hx; omega) hi)
  have HMAT := Lib.hid hmat
  have HW := Lib.hid hw; have HBW := Lib.hid hbw; have HE1 := Lib.hid he1; have HET := Lib.hid het
  have HUC := Lib.hid (fun k => unitC_colors (M := M) (n := n) (e := e1) k h0 h1)
  clear hw hbw hmat he1 het
  go_enter Try.func74, Try.ntmps74
  go_wp2_with fail
  refine (bcheck_calls n vw X _ HW.out (by omega) (by omega) HBW.out hl).mono ?_
  rintro e u1 ⟨rfl, hb⟩
  have HW1 := Lib.hid (HW.out.below hb); have HB1 := Lib.hid hb
  clear hb
  go_wp2_with (at_make; refine wpList_makeV rfl _ _ rfl _ _ n rfl rfl rfl rfl (by omega) ?_; intro mv w1 ho1 hg1 hlo1 hsz; have sm := ho1.1; have hb1 := below_grown_none (Below.refl _ _) hg1; have HM1 := Lib.hid (ho1.low HB1.out.size); have HB2 := Lib.hid (Below.chain HB1.out hb1); have HW2 := Lib.hid (HW1.out.below hb1); clear ho1 hg1 hb1 hsz)
  go_loopw [31] (fun i wr => ∃ (k : Nat) (vs : List Value), k ≤ n ∧ i = .int .i64 k ∧ vs.length = n ∧ IPart wr w.heap.size mv vs ((matI n fun _ _ => 0).take k) ∧ Below w.heap.size w wr) (fun i _ => n - (intOf i).toNat)
  case atStart => exact ⟨0, _, Nat.zero_le _, rfl, by simp, iPart_start HM1.out, HB2.out⟩
  case round =>
    rename World => W
    obtain ⟨k, vs, hk, rfl, hvl, hip, hbr⟩ := hrel
    by_cases hlt : k < n
    · have hkv : k < vs.length := by rw [hvl]; exact hlt
      have hlk : ((matI n fun _ _ => 0).take k).length = k := by rw [List.length_take, matI_length]; omega
      have hzi := zeros_matI n k hlt
      have HIP := Lib.hid hip; have HBR := Lib.hid hbr; have HVL := Lib.hid hvl; have HLK := Lib.hid hlk; have HZI := Lib.hid hzi
      clear hip hbr hvl hlk hzi
      go_wp2_with (at_make; refine wpList_make rfl _ _ rfl _ _ n rfl rfl rfl rfl (by omega) ?_; intro r w2 ho1 hg1 hlo2 hsz; have sr := ho1.isSl; have hb1 := below_grown_none (Below.refl _ _) hg1; have hm2 := HIP.out.own.below hb1; have c1 := Go.Sl.Own.cell hm2 hkv; have f1 := Go.Sl.Own.frozen hm2 hkv; have HO := Lib.hid ho1; have HBW1 := Lib.hid hb1; clear ho1 hg1 hb1 hm2 hsz)
      have hip6 := (HIP.out.below HBW1.out).setRow (r := r) (ys := List.replicate n 0) (by rw [HLK.out]; exact hkv) (OwnI.low HO.out HBR.out.size) (by simp; omega) (fun q hq e => by
        have a1 := (HIP.out.row q hq).ints.cap
        have a2 := HIP.out.pos q hq
        have a3 := (HIP.out.row q hq).lt _ (row_some (by omega))
        have a4 := HO.out.lt _ (row_some (v := r) (by have := sr.le; omega))
        omega)
      rw [HLK.out, HZI.out] at hip6
      have hb3 : Below w.heap.size w (w2.setCell (vat mv k) r) := (Below.chain HBR.out HBW1.out).setCell (Go.Sl.Own.ge (HIP.out.own.below HBW1.out) hkv) _
      have HIP6 := Lib.hid hip6; have HB3 := Lib.hid hb3
      clear hip6 hb3
      go_roundw
      case rel => exact ⟨k + 1, vs.set k r, by omega, by go_num, by rw [List.length_set]; exact HVL.out, HIP6.out, HB3.out⟩
      case measure => simp [intOf]; omega
    · obtain rfl : k = n := by omega
      rw [List.take_of_length_le (by rw [matI_length]; exact Nat.le_refl _), ← colP_start M k e1 X] at hip
      have hro := hip.ro (by rw [matI_length]; exact hvl)
      obtain ⟨B2, hB2⟩ : ∃ B2, B2 = W.heap.size := ⟨_, rfl⟩
      have hrb : ∀ i, i < k → vblk (nthv vs i) < B2 := fun i hi => by rw [hB2]; exact (hro.blk (by rw [matI_length]; exact hi)).2
      have hmb : vblk mv < B2 := by
        have := hro.own.lt (vblk mv) (row_some (by have := sm.le; have := hro.own.2.1; omega))
        omega
      have HRO := Lib.hid hro; have HBR := Lib.hid hbr; have HRB := Lib.hid hrb; have HVL := Lib.hid hvl
      clear hip hro hbr hrb hlt hk
      go_wp2_with fail
      go_loopw [41] (fun i wr => ∃ c : Nat, c ≤ k ∧ i = .int .i64 c ∧ RO wr w.heap.size mv vs (matI k (colP M k e1 X c 0)) ∧ Below w.heap.size w wr ∧ B2 ≤ wr.heap.size) (fun i _ => k - (intOf i).toNat)
      case atStart => exact ⟨0, Nat.zero_le _, rfl, HRO.out, HBR.out, by omega⟩
      case round =>
        rename World => Wr
        obtain ⟨c, hc, rfl, hz, hbr, hs2⟩ := hrel
        have HZ2 := Lib.hid hz; have HBR2 := Lib.hid hbr
        clear hz hbr
        by_cases hlt : c < k
        · go_wp2_with (at_make; refine wpList_make rfl _ _ rfl _ _ k rfl rfl rfl rfl (by omega) ?_; intro cv w2 ho1 hg1 hlo2 hsz; have sc := ho1.isSl; have hb1 := below_grown_none (Below.refl _ _) hg1; have f1 := ho1.frozen (k := c) (by simpa using hlt); have c1 := ho1.cell (k := c) (by simpa using hlt); have HO := Lib.hid ho1; have HBW1 := Lib.hid hb1; clear ho1 hg1 hb1 hsz)
          rw [HE1.out]
          have hhk : c < (List.replicate k (0 : Int)).length := by simpa using hlt
          have hc2 : OwnI (w2.setCell (vat cv c) (.int .i64 e1)) Wr.heap.size cv (unitC k e1 c) := HO.out.set hhk e1
          have hcvb := (HO.out.lt _ (row_some (v := cv) (by have := sc.le; omega))).1
          have hz2 : RO (w2.setCell (vat cv c) (.int .i64 e1)) w.heap.size mv vs (matI k (colP M k e1 X c 0)) := (HZ2.out.below HBW1.out).setFree (p := vat cv c) (fun b hb => by obtain ⟨_, e⟩ := row_eq hb; rw [vat_block]; omega) (fun i hi => by rw [matI_length] at hi; have := HRB.out i hi; rw [vat_block]; omega) _
          have hb3 : Below w.heap.size w (w2.setCell (vat cv c) (.int .i64 e1)) := (Below.chain HBR2.out HBW1.out).setCell (by rw [vat_block]; exact Nat.le_trans HBR2.out.size hcvb) _
          have hs3 : B2 ≤ (w2.setCell (vat cv c) (.int .i64 e1)).heap.size := by
            have h1 := HBW1.out.size
            rw [setCell_size']; omega
          have hcl := unitC_length k e1 c
          have hcol := HUC.out c
          generalize w2.setCell (vat cv c) (.int .i64 e1) = W4 at hc2 hz2 hb3 hs3 ⊢
          have HZ3 := Lib.hid hz2; have HB3 := Lib.hid hb3; have HC3 := Lib.hid hc2; have HCOL := Lib.hid hcol
          have hwx := HW.out.below hb3
          clear hz2 hb3 hc2 f1 c1 hlo2 hcol hhk
          refine (propagate_calls M k vw cv X (unitC k e1 c) W4 hwx HC3.out.ints (by omega) (by omega) hcl (by omega) HBW.out HCOL.out).mono ?_
          rintro e w4 ⟨u, rfl, hu, hb4⟩
          have su := hu.isSl
          have lu := hu.len
          rw [prop_length, hcl] at lu
          obtain ⟨P, hP⟩ : ∃ P, prop M (unitC k e1 c) X = P := ⟨_, rfl⟩
          obtain ⟨E, hE⟩ : ∃ E, unitC k e1 c = E := ⟨_, rfl⟩
          have hFx : ∀ j, colF M k e1 X j c = nth P j - nth E j := fun j => by rw [← hP, ← hE]; rfl
          have hPl : P.length = k := by rw [← hP, prop_length, hcl]
          have hPb : ∀ j, j < k → -(M : Int) < nth P j - nth E j ∧ nth P j - nth E j < M := fun j hj => by rw [← hFx]; exact HB.out j c hj
          have hub : B2 ≤ vblk u := Nat.le_trans hs3 (hu.lt _ (row_some (v := u) (by have := su.le; omega))).1
          have hcvb2 : B2 ≤ vblk cv := by omega
          have hs4 : B2 ≤ w4.heap.size := Nat.le_trans hs3 hb4.size
          rw [hP] at hu
          rw [hE] at HC3 hcl
          have HU := Lib.hid hu.ints; have HC4 := Lib.hid (HC3.out.ints.below hb4); have HZ4 := Lib.hid (HZ3.out.below hb4); have HB4 := Lib.hid (Below.chain HB3.out hb4)
          have HFX := Lib.hid hFx; have HPL := Lib.hid hPl; have HPB := Lib.hid hPb; have HCL := Lib.hid hcl
          clear hu hb4 hP hE hFx hPl hPb HO HBW1 HZ3 HB3 HC3 hwx hcl HCOL HZ2
          go_wp2_with fail
          go_loopw [56] (fun i wr => ∃ j : Nat, j ≤ k ∧ i = .int .i64 j ∧ RO wr w.heap.size mv vs (matI k (colP M k e1 X c j)) ∧ Ints wr cv E ∧ Ints wr u P ∧ Below w.heap.size w wr ∧ B2 ≤ wr.heap.size) (fun i _ => k - (intOf i).toNat)
          case atStart => exact ⟨0, Nat.zero_le _, rfl, HZ4.out, HC4.out, HU.out, HB4.out, hs4⟩
          case round =>
            rename World => Wi
            obtain ⟨j, hj, rfl, hz, hcc, huu, hbr, hs5⟩ := hrel
            have HZ5 := Lib.hid hz; have HC5 := Lib.hid hcc; have HU5 := Lib.hid huu; have HB5 := Lib.hid hbr
            clear hz hcc huu hbr
            by_cases hjl : j < k
            · have d1 := HU5.out.cell (k := j) (by rw [HPL.out]; exact hjl)
              have d2 := HC5.out.cell (k := j) (by rw [HCL.out]; exact hjl)
              have lc := HC5.out.len
              rw [HCL.out] at lc
              have hjm : j < (matI k (colP M k e1 X c j)).length := by rw [matI_length]; exact hjl
              have d3 := HZ5.out.rows.cell hjm
              have hr := HZ5.out.row j hjm
              have hkr : c < (nthr (matI k (colP M k e1 X c j)) j).length := by rw [row_matI_length hjl]; exact hlt
              have hst := HZ5.out.set hjm hkr (colF M k e1 X j c)
              rw [matI_set hjl, colP_step] at hst
              have hrb := (HZ5.out.blk hjm).1
              have hrb2 := HRB.out j hjl
              rw [HFX.out] at hst
              have hxb := HPB.out j hjl
              obtain ⟨x, hx⟩ : ∃ x, nth P j = x := ⟨_, rfl⟩
              obtain ⟨y, hy⟩ : ∃ y, nth E j = y := ⟨_, rfl⟩
              rw [hx] at d1 hst hxb
              rw [hy] at d2 hst hxb
              obtain ⟨r, hre⟩ : ∃ r, nthv vs j = r := ⟨_, rfl⟩
              rw [hre] at d3 hr hst hrb hrb2
              have sr := hr.isSl
              have lr := hr.ints.len
              rw [row_matI_length hjl] at lr
              have d4 := hr.cell hkr
              have d5 := hr.frozen hkr
              have lm := HZ5.out.rows.len
              rw [matI_length] at lm
              have hc6 : Ints (Wi.setCell (vat r c) (.int .i64 (x - y))) cv E := HC5.out.setOther (by rw [vat_block]; omega) _
              have hu6 : Ints (Wi.setCell (vat r c) (.int .i64 (x - y))) u P := HU5.out.setOther (by rw [vat_block]; omega) _
              have hb6 : Below w.heap.size w (Wi.setCell (vat r c) (.int .i64 (x - y))) := HB5.out.setCell (by rw [vat_block]; exact hrb) _
              have hs6 : B2 ≤ (Wi.setCell (vat r c) (.int .i64 (x - y))).drew.heap.size := by show B2 ≤ (Wi.setCell (vat r c) (.int .i64 (x - y))).heap.size; rw [setCell_size']; exact hs5
              have HC6 := Lib.hid hc6; have HU6 := Lib.hid hu6; have HB6 := Lib.hid hb6; have HST := Lib.hid hst
              have hww : IntKind.i64.wrap (x - y) = x - y := IntWalk.i64_in _ ⟨by omega, by omega⟩
              clear hc6 hu6 hb6 hst hr hre hx hy hkr hjm
              go_wp2_with fail
              go_region
              go_wp2_with fail
              go_roundw
              case rel => exact ⟨j + 1, by omega, by go_num, HST.out.below (Below.refl _ _).drew, HC6.out.below (Below.refl _ _).drew, HU6.out.below (Below.refl _ _).drew, HB6.out.drew, hs6⟩
              case measure => simp [intOf]; omega
            · obtain rfl : j = k := by omega
              rw [colP_row] at HZ5
              go_wp2_with fail
              refine ⟨⟨c + 1, by omega, ?_, HZ5.out, HB5.out, hs5⟩, ?_⟩
              · go_num
              · show j - (intOf (.int .i64 ((c : Int) + 1))).toNat < j - (intOf (.int .i64 (c : Int))).toNat
                simp [intOf]; omega
        · obtain rfl : c = k := by omega
          rw [colP_end] at HZ2
          go_wp2_with fail
          refine (solutions_calls mv (matI c (colF M c e1 X)) c c M _ ⟨vs, HZ2.out.rows⟩ HMAT.out (by omega) (by omega) hM hM13).mono ?_
          rintro e w5 ⟨rfl, hb5⟩
          have HB5 := Lib.hid (Below.chain HBR2.out hb5); clear hb5
          go_wp2_with fail
          go_ret2
          exact ⟨rfl, HB5.out⟩

set_option maxRecDepth 100000 in
theorem ccount_calls (n M : Nat) (vw : Value) (X : List Int) (w : World) (hw : Ints w vw X) (hn : 2 ≤ n) (hn6 : n ≤ 6) (hM : 0 < M) (hM13 : M ≤ 13) (hbw : BWord (n : Int) X) (hl : X.length ≤ 30) :
    Calls Try.prog 74 #[.int .i64 n, vw, .int .i64 M] w fun e w' => e = .returned (.tuple #[.int .i64 (solL (smithL (matI n (colF M n ((1 : Int) % (M : Int)) X)) n n) M n), .int .i64 0]) ∧ Below w.heap.size w w' :=
  count_calls2 n M vw X w hw hn hn6 hM hM13 hbw hl _ rfl

end Go.Proofs.Ytplekfgadbjgdaa


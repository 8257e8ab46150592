/- link.LinkingNumbers walked. -/
import Derived.Test.YtckopilciekfbaaQTopTorus0
import Derived.Test.YtckopilciekfbaaQTopTorus1
import Derived.Test.YtckopilciekfbaaQTopTorus2
import Derived.Test.YtckopilciekfbaaQTopTorus3
import Derived.Test.YtckopilciekfbaaQTopTorus4
import Derived.Test.YtckopilciekfbaaQTopTorus5
import Derived.Test.YtckopilciekfbaaQTopTorus6
import Derived.Test.YtckopilciekfbaaQTopTorus8
import Derived.Test.YtckopilciekfbaaQTopTorus9
import Derived.Test.YtckopilciekfbaaQTopTorus13
import Derived.Test.YtckopilciekfbaaQTopTorus14
import Derived.Test.YtckopilciekfbaaQTopTorus15
import Derived.Test.YtckopilciekfbaaQTopTorus16
import Derived.Test.YtckopilciekfbaaQTopTorus22
import Derived.Test.YtckopilciekfbaaQTopTorus24
import Derived.Test.YtckopilciekfbaaQTopTorus25
import Derived.Test.YtckopilciekfbaaQTopTorus27
import Derived.Test.YtckopilciekfbaaQTopTorus28
import Derived.Test.YtckopilciekfbaaQTopTorus29
import Derived.Test.YtckopilciekfbaaQTopTorus31
import Derived.Test.YtckopilciekfbaaQTopTorus43
import Derived.Test.YtckopilciekfbaaQTopTorus44
import Derived.Test.YtckopilciekfbaaQTopTorus45
import Derived.Test.YtckopilciekfbaaQTopTorus46
import Derived.Test.YtckopilciekfbaaQTopTorus48
import Derived.RangeFuncNested
import Derived.RangeFuncCalls
import Derived.OrdersIn
import Derived.OrdersHeld
import Derived.Deep.RegionHeld
import Derived.Shelf.Strings.Builder1
import Derived.Lib.SliceRun
import Derived.RangeFuncBound
import Derived.RangeFuncLeaves
import Derived.RangeFuncBox
import Derived.Shelf.Abstract
import Derived.Shelf.RegionOpen
import Derived.OwnWalkIn
import Derived.TacticsInMore
import Derived.LoopNIn
import Derived.LoopIn
import Derived.Maps.AppendAt
namespace Go.Proofs.Ytckopilciekfbaa
open Go.RowKit Go.Sl

theorem sum_len_le (L : List Nat) : (∀ l ∈ L, 0 < l) → L.length ≤ L.sum := by
  induction L with
  | nil => intro _; simp
  | cons l L ih => intro h; have := ih fun x hx => h x (by simp [hx]); have := h l (by simp); simp; omega
theorem mem_le_sum {L : List Nat} {l : Nat} (h : l ∈ L) : l ≤ L.sum := by
  induction L with
  | nil => cases h
  | cons a L ih =>
    simp only [List.sum_cons]
    rcases List.mem_cons.1 h with rfl | h1
    · omega
    · have := ih h1; omega

set_option maxHeartbeats 8000000 in
set_option maxRecDepth 100000 in
theorem linknum_calls (n : Nat) (v : Value) (xs : List Int) (w : World) (hv : Ints w v xs) (h1 : 2 ≤ n) (h2 : n ≤ 6) (hx : BWord n xs) (hl : xs.length ≤ 30) :
    Calls Try.prog 30 #[.int .i64 n, v] w fun e w' => ∃ (u : Value) (C : List (List Int)) (lab : Nat → Nat), e = .returned (.tuple #[u, .int .i64 0]) ∧ CycOK (backL (strandsL n xs)) (C.map List.length) ∧ LabOK (backL (strandsL n xs)) C lab ∧ Rows2 w' u (matI C.length (lkN (lkRun lab n xs).1)) ∧ Below w.heap.size w w' := by
  have sv := hv.isSl
  have lv := hv.len
  have HV := Lib.hid hv
  have HCK := Lib.hid (bcheck_calls n v xs w hv (by omega) (by omega) hx hl)
  have HCO := Lib.hid (fun W (hb : Below w.heap.size w W) => comps_calls n v xs W (hv.below hb) h1 h2 hx hl)
  have HXA := Lib.hid (show ∀ x ∈ xs, x ≠ 0 ∧ x.natAbs < n from fun x h => by have := hx x h; omega)
  have hPl : (backL (strandsL n xs)).length = n := by rw [backL_length, strandsL_length]
  obtain ⟨P, hP⟩ : ∃ P, backL (strandsL n xs) = P := ⟨_, rfl⟩
  rw [hP] at HCO hPl ⊢
  have HPL := Lib.hid hPl
  obtain ⟨len, hlen⟩ : ∃ len, xs.length = len := ⟨_, rfl⟩
  rw [hlen] at lv hl
  have HLN := Lib.hid hlen
  clear hP hPl hv hx hlen
  go_enter Try.func30, Try.ntmps30
  go_wp2_with fail
  refine HCK.out.mono ?_
  rintro e w1 ⟨rfl, hb1⟩
  have HB1 := Lib.hid hb1
  clear hb1 HCK
  go_wp2_with fail
  refine (HCO.out _ HB1.out).mono ?_
  rintro e w2 ⟨lv0, vs, C, lab, rfl, hr, hcy, hlab, hb2⟩
  have sl0 := hr.isSl
  have ll0 := hr.len
  obtain ⟨N, hN⟩ : ∃ N, C.length = N := ⟨_, rfl⟩
  rw [hN] at ll0
  have hN6 : N ≤ 6 := by
    have a1 := sum_len_le _ hcy.pos
    rw [hcy.sum, List.length_map, hN, HPL.out] at a1; omega
  have hN1 : 1 ≤ N := by have := hlab.lt 0 (by rw [HPL.out]; omega); omega
  have hrl : ∀ k, k < N → (nthr C k).length ≤ 6 := fun k hk => by
    have a1 := mem_le_sum (L := C.map List.length) (l := (nthr C k).length) (List.mem_map.2 ⟨_, nthr_mem (by rw [hN]; exact hk), rfl⟩)
    rw [hcy.sum, HPL.out] at a1; omega
  have HN := Lib.hid hN; have HR := Lib.hid hr; have HCY := Lib.hid hcy; have HLAB := Lib.hid hlab; have HRL := Lib.hid hrl
  have HB2 := Lib.hid (Below.chain HB1.out hb2)
  clear hN hr hcy hlab hrl hb2 HCO
  go_wp2_with (first
    | (at_make; refine wpList_make rfl _ _ rfl _ _ n rfl rfl rfl rfl (by omega) ?_; intro ofv w3 ho3 hg3 hl3 hsz3; have sof := ho3.isSl; have hb3 := below_grown_none (Below.refl _ _) hg3; have HOF := Lib.hid ho3; have HB3 := Lib.hid hb3; clear ho3 hg3 hb3)
    | (at_make; refine wpList_makeV rfl _ _ rfl _ _ N rfl rfl rfl rfl (by omega) ?_; intro outv w4 ho4 hg4 hl4 hsz4; have sout := ho4.1; have hb4 := below_grown_none (Below.refl _ _) hg4; have HOU := Lib.hid ho4; have HB4 := Lib.hid hb4; clear ho4 hg4 hb4))
  have hofr : Go.Sl.row ofv = some (vblk ofv) := row_some (by have := sof.le; omega)
  obtain ⟨hof1, hof2⟩ := HOF.out.lt _ hofr
  have HOFR := Lib.hid hofr
  have HR4 := Lib.hid ((HR.out.below HB3.out).below HB4.out)
  have HR2 := HR
  have HB34 := Lib.hid (HB3.out.trans (HB4.out.mono (by omega : w2.heap.size ≤ w3.heap.size)))
  have HOF4 := Lib.hid (HOF.out.below HB4.out)
  clear hofr HOF HB3 HB4
  obtain ⟨B2, hB2⟩ : ∃ B2, B2 = w3.heap.size := ⟨_, rfl⟩
  rw [← hB2] at HOU hof2
  have hB2a : w2.heap.size + 1 = B2 := by omega
  have hB2b : w4.heap.size = B2 + 1 := by omega
  clear hsz3 hsz4 hB2
  go_loopw [38] (fun i wr => ∃ (k : Nat) (L : List Int) (os : List Value), k ≤ N ∧ i = .int .i64 k ∧ OwnI wr w2.heap.size ofv L ∧ L.length = n ∧ (∀ x, x < n → lab x < k → nth L x = (lab x : Nat)) ∧ IPart wr B2 outv os ((matI N fun _ _ => 0).take k) ∧ os.length = N ∧ RowsV wr lv0 vs C ∧ Below w2.heap.size w2 wr ∧ B2 ≤ wr.heap.size) (fun i _ => N - (intOf i).toNat)
  case atStart => exact ⟨0, _, _, Nat.zero_le _, rfl, HOF4.out, by simp, fun x _ h => absurd h (Nat.not_lt_zero _), iPart_start HOU.out, by simp, HR4.out, HB34.out, by omega⟩
  case round =>
    rename World => W
    obtain ⟨k, L, os, hk, rfl, ho, hL, hof, hip, hos, hr, hbr, hz⟩ := hrel
    by_cases hlt : k < N
    · have hkC : k < C.length := by rw [HN.out]; exact hlt
      have ck := hr.cell hkC
      have hrk := hr.row hkC
      obtain ⟨r, hrr⟩ : ∃ r, nthv vs k = r := ⟨_, rfl⟩
      rw [hrr] at ck hrk
      have sr := hrk.isSl
      have lr := hrk.len
      obtain ⟨m, hm⟩ : ∃ m, (nthr C k).length = m := ⟨_, rfl⟩
      rw [hm] at lr
      have hm6 : m ≤ 6 := by rw [← hm]; exact HRL.out k hlt
      have key : ∀ W', Below W.heap.size W W' → W'.cell? (vat outv k) = some (nthv os k) ∧ W'.frozen? (vat outv k) = false := fun W' hb =>
        ⟨by rw [nthv_lt (by rw [hos]; exact hlt)]; exact (hip.below hb).own.cell (j := k) (by rw [hos]; exact hlt), (hip.below hb).own.frozen (j := k) (by rw [hos]; exact hlt)⟩
      have lo : vlen outv = N := by have := hip.own.2.1; omega
      have hlk : ((matI N fun _ _ => 0).take k).length = k := by rw [List.length_take, matI_length]; omega
      have hzi := zeros_matI N k hlt
      have HO := Lib.hid ho; have HL := Lib.hid hL; have HOFL := Lib.hid hof; have HIP := Lib.hid hip; have HOS := Lib.hid hos; have HRW := Lib.hid hr; have HBR := Lib.hid hbr; have HRK := Lib.hid hrk; have HM := Lib.hid hm; have HRR := Lib.hid hrr; have HLK := Lib.hid hlk; have HZI := Lib.hid hzi; have HKEY := Lib.hid key
      clear ho hL hof hip hr hbr hrk hm hrr hlk hzi hos key
      go_wp2_with (first
        | (at_make; refine wpList_make rfl _ _ rfl _ _ N rfl rfl rfl rfl (by omega) ?_; intro rv w5 ho5 hg5 hl5 hsz5; have srv := ho5.isSl; have hb5 := below_grown_none (Below.refl _ _) hg5; have c5 := (HKEY.out _ hb5).1; have f5 := (HKEY.out _ hb5).2; have HO5 := Lib.hid ho5; have HB5 := Lib.hid hb5; clear ho5 hg5 hb5))
      have hip6 := (HIP.out.below HB5.out).setRow (r := rv) (ys := List.replicate N 0) (by rw [HLK.out, HOS.out]; exact hlt) (OwnI.low HO5.out hz) (by simp; omega) (fun q hq e => by
        have a1 := (HIP.out.row q hq).ints.cap
        have a2 := HIP.out.pos q hq
        have a3 := (HIP.out.row q hq).lt _ (row_some (by omega))
        have a4 := HO5.out.lt _ (row_some (v := rv) (by have := srv.le; omega))
        omega)
      rw [HLK.out, HZI.out] at hip6
      have ho6 : OwnI (w5.setCell (vat outv k) rv) w2.heap.size ofv L := (HO.out.below HB5.out).setOther (fun b hb e => by
        have a1 := HIP.out.own.ge (j := k) (by rw [HOS.out]; exact hlt)
        obtain ⟨_, a2⟩ := row_eq hb
        rw [vat_block] at a1 e
        omega) _
      have hbr6 : Below w2.heap.size w2 (w5.setCell (vat outv k) rv) := (HBR.out.trans (HB5.out.mono HBR.out.size)).setCell (by have a1 := HIP.out.own.ge (j := k) (by rw [HOS.out]; exact hlt); omega) _
      have hrw6 : RowsV (w5.setCell (vat outv k) rv) lv0 vs C := HR2.out.below hbr6
      have hz6 : B2 ≤ (w5.setCell (vat outv k) rv).heap.size := by simp; omega
      generalize hW6 : w5.setCell (vat outv k) rv = W6 at hip6 ho6 hbr6 hrw6 hz6 ⊢
      have hrk6 := hrw6.row hkC
      rw [HRR.out] at hrk6
      have HIP6 := Lib.hid hip6; have HBR6 := Lib.hid hbr6; have HRW6 := Lib.hid hrw6; have HO6 := Lib.hid ho6; have HRK6 := Lib.hid hrk6
      clear hip6 hbr6 hrw6 ho6 hrk6 hW6 HO5 HB5 HKEY
      go_loopw [51] (fun i wi => ∃ (j : Nat) (L' : List Int), j ≤ m ∧ i = .int .i64 j ∧ OwnI wi w2.heap.size ofv L' ∧ L'.length = n ∧ (∀ x, x < n → lab x < k → nth L' x = (lab x : Nat)) ∧ (∀ t, t < j → nth L' (nth (nthr C k) t).toNat = (k : Nat)) ∧ W6.grownBy wi (some (vblk ofv))) (fun i _ => m - (intOf i).toNat)
      case atStart => exact ⟨0, L, Nat.zero_le _, rfl, HO6.out, HL.out, HOFL.out, fun t ht => absurd ht (Nat.not_lt_zero _), ⟨rfl, rfl, rfl, Nat.le_refl _, fun _ _ _ => rfl⟩⟩
      case round =>
        rename World => Wi
        obtain ⟨j, L', hj, rfl, ho, hL, hof, hofj, hkp⟩ := hrel
        have hbi : Below w2.heap.size w2 Wi := HBR6.out.grown hkp HBR6.out.size (fun b hb => by injection hb with hb; omega)
        by_cases hjm : j < m
        · have hjl : j < (nthr C k).length := by rw [HM.out]; exact hjm
          have cj := ((HR2.out.below hbi).row hkC).cell (k := j) hjl
          rw [HRR.out] at cj
          have hmem := HLAB.out.mem k hkC _ (nth_mem hjl)
          obtain ⟨x, hx⟩ : ∃ x : Nat, nth (nthr C k) j = (x : Int) := ⟨(nth (nthr C k) j).toNat, by omega⟩
          rw [hx] at cj hmem
          simp only [Int.toNat_natCast] at hmem
          rw [HPL.out] at hmem
          obtain ⟨_, hxn, hxl⟩ := hmem
          have lofv := ho.len
          rw [hL] at lofv
          have co := ho.cell (k := x) (by rw [hL]; exact hxn)
          have cf := ho.frozen (k := x) (by rw [hL]; exact hxn)
          have hos2 := ho.set (k := x) (by rw [hL]; exact hxn) (k : Int)
          have hk2 : W6.grownBy (Wi.setCell (vat ofv x) (.int .i64 k)) (some (vblk ofv)) := Kp.setB hkp (vat_block _ _) _
          have hl2 : (L'.set x (k : Int)).length = n := by rw [List.length_set]; exact hL
          have hn2 : ∀ y, y < n → nth (L'.set x (k : Int)) y = if y = x then (k : Int) else nth L' y := fun y hy => by
            exact nth_set _ _ _ _ (by rw [hL]; exact hxn)
          have hof2 : ∀ y, y < n → lab y < k → nth (L'.set x (k : Int)) y = (lab y : Nat) := fun y hy hl => by
            rw [hn2 y hy, if_neg (fun e => by subst e; omega)]; exact hof y hy hl
          have hofj2 : ∀ t, t < j + 1 → nth (L'.set x (k : Int)) (nth (nthr C k) t).toNat = (k : Nat) := fun t ht => by
            have h3 := HLAB.out.mem k hkC _ (nth_mem (show t < (nthr C k).length by omega))
            rw [HPL.out] at h3
            rw [hn2 _ h3.2.1]
            rcases Nat.lt_or_ge t j with h4 | h4
            · split
              · rfl
              · exact hofj t h4
            · rw [show t = j by omega, hx]; simp
          have HX2 := Lib.hid hos2; have HK2 := Lib.hid hk2; have HL2 := Lib.hid hl2; have HF2 := Lib.hid hof2; have HJ2 := Lib.hid hofj2
          clear hos2 hk2 hl2 hn2 hof2 hofj2 ho hL hof hofj hkp hbi hx hxl
          go_wp2_with fail
          go_roundw
          case rel => exact ⟨j + 1, _, by omega, by go_num, HX2.out, HL2.out, HF2.out, HJ2.out, HK2.out⟩
          case measure => simp [intOf]; omega
        · have hall : ∀ x, x < n → lab x < k + 1 → nth L' x = (lab x : Nat) := fun x hx hl => by
            rcases Nat.lt_or_ge (lab x) k with h3 | h3
            · exact hof x hx h3
            · have h4 := HLAB.out.cov x (by rw [HPL.out]; exact hx)
              have h5 : lab x = k := by omega
              rw [h5] at h4
              obtain ⟨t, ht, he⟩ := List.mem_iff_getElem.1 h4
              have h6 := hofj t (by have := HM.out; omega)
              rw [nth_lt ht, he] at h6
              rw [h5]; simpa using h6
          have HALL := Lib.hid hall
          have hip7 := HIP6.out.but (show vblk ofv < B2 by omega) hkp
          have hz7 : B2 ≤ Wi.heap.size := Nat.le_trans hz6 hkp.size
          have HIP7 := Lib.hid hip7; have HBI := Lib.hid hbi; have HO7 := Lib.hid ho; have HL7 := Lib.hid hL; have HRW7 := Lib.hid (HR2.out.below hbi)
          have hos7 : (os.set k rv).length = N := by rw [List.length_set]; exact HOS.out
          have HOS7 := Lib.hid hos7
          clear hall hip7 hbi ho hL hof hofj hkp hos7
          go_wp2_with fail
          go_roundw
          case rel => exact ⟨k + 1, L', _, by omega, by go_num, HO7.out, HL7.out, HALL.out, HIP7.out, HOS7.out, HRW7.out, HBI.out, hz7⟩
          case measure => simp [intOf]; omega
    · obtain rfl : k = N := by omega
      rw [List.take_of_length_le (by rw [matI_length]; exact Nat.le_refl _)] at hip
      have hro := hip.ro (by rw [matI_length]; exact hos)
      have hla : ∀ x, x < n → nth L x = (lab x : Nat) := fun x hx => hof x hx (by have := HLAB.out.lt x (by rw [HPL.out]; exact hx); rw [HN.out] at this; exact this)
      have HLA := Lib.hid hla; have HO := Lib.hid ho; have HL := Lib.hid hL; have HRO := Lib.hid hro; have HOS := Lib.hid hos; have HBR := Lib.hid hbr
      have lof := ho.len
      rw [hL] at lof
      have lout := hro.rows.len
      rw [matI_length] at lout
      have HBW := Lib.hid (HB2.out.trans (hbr.mono HB2.out.size))
      clear hip hro hla ho hL hof hos hr hbr HR4 HB34 HOF4 HOU HR2
      go_wp2_with fail
      refine (identity_calls n _ (by omega)).mono ?_
      rintro e W3 ⟨atv, rfl, hat, hb3⟩
      have sat := hat.isSl
      have lat := hat.ints.len
      rw [iota_length] at lat
      have hz3 : B2 ≤ W3.heap.size := Nat.le_trans hz hb3.size
      have hrb : ∀ i, i < k → vblk (nthv os i) < W.heap.size := fun i hi => (HRO.out.blk (by rw [matI_length]; exact hi)).2
      have hob : vblk outv < W.heap.size := by
        have := HRO.out.own.lt (vblk outv) (row_some (by have := sout.le; omega))
        exact this.2
      have HRB := Lib.hid hrb
      replace HO := Lib.hid (HO.out.below hb3)
      replace HRO := Lib.hid (HRO.out.below hb3)
      replace HBW := Lib.hid (Below.chain HBW.out hb3)
      have hwB2 : w.heap.size ≤ B2 := by have := HB2.out.size; omega
      have HAT := Lib.hid hat
      obtain ⟨B3, hB3⟩ : ∃ B3, B3 = W.heap.size := ⟨_, rfl⟩
      rw [← hB3] at HAT HRB hob
      clear hat hb3 hrb
      go_wp2_with fail
      go_loopw [65] (fun i wr => ∃ j : Nat, j ≤ len ∧ i = .int .i64 j ∧ OwnI wr B3 atv (strandsL n (xs.take j)) ∧ RO wr B2 outv os (matI k (lkRun lab n (xs.take j)).1) ∧ Below B2 W3 wr) (fun i _ => len - (intOf i).toNat)
      case atStart => exact ⟨0, Nat.zero_le _, rfl, HAT.out, HRO.out, Below.refl _ _⟩
      case round =>
        rename World => Wr
        obtain ⟨j, hj, rfl, ha, hro, hbr⟩ := hrel
        have hw0 : Below w.heap.size w Wr := HBW.out.trans (hbr.mono hwB2)
        have hof : OwnI Wr w2.heap.size ofv L := Go.Sl.Own.of_block HO.out fun c hc => hbr.block c (by obtain ⟨_, e⟩ := row_eq hc; omega)
        by_cases hlt : j < len
        · have hjx : j < xs.length := by rw [HLN.out]; exact hlt
          have cx := (HV.out.below hw0).cell hjx
          obtain ⟨c, hc⟩ : ∃ c, nth xs j = c := ⟨_, rfl⟩
          rw [hc] at cx
          have hcb := HXA.out _ (nth_mem hjx)
          rw [hc] at hcb
          obtain ⟨hc0, hcn⟩ := hcb
          obtain ⟨i, hi⟩ : ∃ i : Nat, c.natAbs = i + 1 := ⟨c.natAbs - 1, by omega⟩
          have htk : xs.take (j + 1) = xs.take j ++ [c] := by rw [List.take_succ_eq_append_getElem hjx, ← nth_lt hjx, hc]
          have hSl := strandsL_length n (xs.take j)
          have hpm : IsPerm (strandsL n (xs.take j)) := strands_perm (by omega) _ fun x hx => HXA.out x (List.mem_of_mem_take hx)
          have hinv := lkRun_inv (lab := lab) (n := n) (N := k) (by omega) (fun i hi => by have := HLAB.out.lt i (by rw [HPL.out]; exact hi); rw [HN.out] at this; exact this) (xs := xs.take j) (fun x hx => HXA.out x (List.mem_of_mem_take hx))
          have hrun : lkRun lab n (xs.take (j + 1)) = lkStep lab (lkRun lab n (xs.take j)) c := by rw [htk, lkRun_snoc]
          have hst2 : strandsL n (xs.take (j + 1)) = swS (strandsL n (xs.take j)) c := by rw [htk, strandsL_snoc]
          have hs2 := lkRun_strands lab n (xs.take j)
          obtain ⟨S, hS⟩ : ∃ S, S = strandsL n (xs.take j) := ⟨_, rfl⟩
          rw [← hS] at ha hSl hpm hs2 hst2
          obtain ⟨F, hF⟩ : ∃ F, F = (lkRun lab n (xs.take j)).1 := ⟨_, rfl⟩
          have hFb : ∀ u v, (F u v).natAbs ≤ 30 := fun u v => by rw [hF]; have := hinv.bd u v; simp at this; omega
          rw [← hF] at hro
          have hiS : i < S.length := by omega
          have hjS : i + 1 < S.length := by omega
          have hpr := hpm.range
          rw [hSl] at hpr
          obtain ⟨p, hp⟩ : ∃ p : Nat, nth S i = (p : Int) := ⟨(nth S i).toNat, by have := hpr _ (nth_mem hiS); omega⟩
          obtain ⟨q, hq⟩ : ∃ q : Nat, nth S (i + 1) = (q : Int) := ⟨(nth S (i + 1)).toNat, by have := hpr _ (nth_mem hjS); omega⟩
          have HP0 := Lib.hid hp; have HQ0 := Lib.hid hq
          have hpn : p < n := by have := hpr _ (nth_mem hiS); omega
          have hqn : q < n := by have := hpr _ (nth_mem hjS); omega
          obtain ⟨a, hla⟩ : ∃ a, lab p = a := ⟨_, rfl⟩
          obtain ⟨b, hlb⟩ : ∃ b, lab q = b := ⟨_, rfl⟩
          have hak : a < k := by rw [← hla]; have := HLAB.out.lt p (by rw [HPL.out]; exact hpn); rw [HN.out] at this; exact this
          have hbk : b < k := by rw [← hlb]; have := HLAB.out.lt q (by rw [HPL.out]; exact hqn); rw [HN.out] at this; exact this
          have c1 := ha.cell hiS; have c2 := ha.cell hjS
          rw [hp] at c1
          rw [hq] at c2
          have d1 := hof.cell (k := p) (by rw [HL.out]; exact hpn)
          have d2 := hof.cell (k := q) (by rw [HL.out]; exact hqn)
          rw [HLA.out p hpn, hla] at d1
          rw [HLA.out q hqn, hlb] at d2
          obtain ⟨s, hs⟩ : ∃ s, sgx c = s := ⟨_, rfl⟩
          have hstep : (lkStep lab (lkRun lab n (xs.take j)) c).1 = bump F a b s := by
            unfold lkStep lbl
            rw [hs2, ← hF, hi, Nat.add_sub_cancel, hp, hq, hs]; simp [hla, hlb]
          have hsw : swS S c = (S.set i (q : Int)).set (i + 1) (p : Int) := by unfold swS; rw [hi, Nat.add_sub_cancel, hp, hq]
          have hin : i + 1 < n := by omega
          have hia : ((i : Int) + 1 : Int) - 1 = (i : Int) := by omega
          have hjn : ((i : Int) + 1).toNat = i + 1 := by omega
          have hquo : c.tdiv ((i : Int) + 1) = s := by rw [← hs, sgx, hi]; rfl
          have hsc : s = 1 ∨ s = -1 := by rw [← hs]; rcases sgx_cases hc0 with ⟨h, _⟩ | ⟨h, _⟩ <;> simp [h]
          have HI := Lib.hid hi; have HRUN := Lib.hid hrun; have HST2 := Lib.hid hst2; have HSTEP := Lib.hid hstep; have HSW := Lib.hid hsw; have HFB := Lib.hid hFb; have HQUO := Lib.hid hquo; have HHA := Lib.hid ha; have HRO2 := Lib.hid hro; have HBR2 := Lib.hid hbr; have HOF2 := Lib.hid hof; have HSL := Lib.hid hSl
          clear hi htk hpm hinv hrun hst2 hs2 hS hF hFb hpr hp hq hla hlb hs hstep hsw hquo ha hro hbr hof hw0 hc hSl
          go_wp2_with fail
          refine (bindex_calls c _ (by omega) (by omega)).mono ?_
          rintro e w' ⟨rfl, rfl⟩
          rw [HI.out]
          simp only [Int.natCast_add, Int.cast_ofNat_Int]
          go_wp2_with fail
          go_region
          have hdr : Below Wr.heap.size Wr Wr.drew := (Below.refl _ _).drew
          obtain ⟨W5, hW5⟩ : ∃ W5, W5 = Wr.drew := ⟨_, rfl⟩
          rw [← hW5] at hdr ⊢
          have ha5 := HHA.out.below hdr; have ho5 := HRO2.out.below hdr; have hf5 := HOF2.out.below hdr
          have hb5 := HBR2.out.trans (hdr.mono (by have := HBR2.out.size; omega))
          have HHA5 := Lib.hid ha5; have HRO5 := Lib.hid ho5; have HB5 := Lib.hid hb5
          clear hW5 hdr ha5 ho5 hf5 hb5 c1 c2 d1 d2 cx HHA HRO2 HOF2 HBR2
          have hak2 : a < (matI k F).length := by rw [matI_length]; exact hak
          have hbk2 : b < (matI k F).length := by rw [matI_length]; exact hbk
          have ca := HRO5.out.rows.cell hak2
          have hra := HRO5.out.row a hak2
          have hbl : b < (nthr (matI k F) a).length := by rw [row_matI_length hak]; exact hbk
          have ea := hra.cell hbl
          have fa := hra.frozen hbl
          have sra := hra.isSl
          have lra := hra.ints.len
          rw [row_matI_length hak] at lra
          rw [nthr_matI hak, nth_row hbk] at ea
          have hset := HRO5.out.set hak2 hbl (F a b + s)
          rw [matI_set hak] at hset
          have hbse := HB5.out.setCell (p := vat (nthv os a) b) (by rw [vat_block]; exact (HRO5.out.blk hak2).1) (.int .i64 (F a b + s))
          have hase : OwnI (W5.setCell (vat (nthv os a) b) (.int .i64 (F a b + s))) B3 atv S := HHA5.out.setOther (fun c hc e => by
            have a1 := (HHA5.out.lt c hc).1
            have a2 := HRB.out a hak
            rw [vat_block] at e; omega) _
          obtain ⟨ra, hra0⟩ : ∃ ra, nthv os a = ra := ⟨_, rfl⟩
          rw [hra0] at ca ea fa sra lra hset hbse hase
          obtain ⟨fab, hfab⟩ : ∃ z, F a b = z := ⟨_, rfl⟩
          have hfb := HFB.out a b
          rw [hfab] at ea hset hbse hase hfb
          have hwr : IntKind.i64.wrap (fab + s) = fab + s := IntWalk.i64_in _ ⟨by omega, by omega⟩
          have hqq := HQUO.out
          have HSET := Lib.hid hset; have HBSE := Lib.hid hbse; have HASE := Lib.hid hase; have HRA0 := Lib.hid hra0; have HFAB := Lib.hid hfab
          clear hra hset hbse hase hra0 hfab
          go_wp2_with fail
          go_region
          clear ea fa ca
          have hdr6 : Below (W5.setCell (vat ra b) (.int .i64 (fab + s))).heap.size (W5.setCell (vat ra b) (.int .i64 (fab + s))) (W5.setCell (vat ra b) (.int .i64 (fab + s))).drew := (Below.refl _ _).drew
          have ha6 := HASE.out.below hdr6; have ho6 := HSET.out.below hdr6
          have hb6 := HBSE.out.drew
          generalize (W5.setCell (vat ra b) (.int .i64 (fab + s))).drew = W6 at ha6 ho6 hb6 ⊢
          have HA6 := Lib.hid ha6; have HO6 := Lib.hid ho6; have HB6 := Lib.hid hb6
          clear hdr6 ha6 ho6 hb6 HASE HSET HBSE
          by_cases hab : a = b
          · have hfin : matI k (fun u v => if u = a ∧ v = b then fab + s else F u v) = matI k (lkRun lab n (xs.take (j + 1))).1 := by
              rw [HRUN.out, HSTEP.out, ← HFAB.out]
              subst hab
              exact matI_bump_eq s
            have hab2 : ¬ (a : Int) ≠ (b : Int) := by omega
            have HFIN := Lib.hid hfin; have HAB := Lib.hid hab
            clear hfin hab
            go_wp2_with fail
            have o1 := HA6.out
            have c1 := o1.cell hiS; have c2 := o1.cell hjS
            rw [HP0.out] at c1
            rw [HQ0.out] at c2
            have f1 := o1.frozen hiS
            have o2 := o1.set hiS (q : Int)
            have f2 := o2.frozen (k := i + 1) (by rw [List.length_set]; exact hjS)
            have e2 := o2.cell (k := i + 1) (by rw [List.length_set]; exact hjS)
            have o3 := o2.set (k := i + 1) (by rw [List.length_set]; exact hjS) (p : Int)
            have gA := o1.ge hiS; have gB := o1.ge hjS
            rw [vat_block] at gA gB
            have rA : ∀ b, Go.Sl.row outv = some b → vblk atv ≠ b := fun b hb e => by obtain ⟨_, e2⟩ := row_eq hb; omega
            have rB : ∀ i, i < (matI k fun _ _ => 0).length → vblk atv ≠ vblk (nthv os i) := fun i hi e => by rw [matI_length] at hi; have := HRB.out i hi; omega
            have r3 := (HO6.out.setFree (p := vat atv i) (by rw [vat_block]; exact rA) (by rw [vat_block]; intro i hi; exact rB i (by rw [matI_length] at hi ⊢; exact hi)) (.int .i64 (q : Int))).setFree (p := vat atv (i + 1)) (by rw [vat_block]; exact rA) (by rw [vat_block]; intro i hi; exact rB i (by rw [matI_length] at hi ⊢; exact hi)) (.int .i64 (p : Int))
            have b3 := (HB6.out.setCell (p := vat atv i) (by rw [vat_block]; omega) (.int .i64 (q : Int))).setCell (p := vat atv (i + 1)) (by rw [vat_block]; omega) (.int .i64 (p : Int))
            rw [HFIN.out] at r3
            rw [← HSW.out, ← HST2.out] at o3
            have o4 := o3.below (Below.refl _ _).drew
            have r4 := r3.below (Below.refl _ _).drew
            have b4 := b3.drew
            have HO4 := Lib.hid o4; have HR4 := Lib.hid r4; have HB4 := Lib.hid b4
            clear o1 o2 o3 r3 b3 o4 r4 b4 rA rB gA gB
            go_region
            go_wp2_with fail
            go_roundw
            case rel => exact ⟨j + 1, by omega, by go_num, HO4.out, HR4.out, HB4.out⟩
            case measure => simp [intOf]; omega
          · have hfin : matI k (fun u v => if u = b ∧ v = a then (fun u v => if u = a ∧ v = b then F a b + s else F u v) b a + s else (fun u v => if u = a ∧ v = b then F a b + s else F u v) u v) = matI k (lkRun lab n (xs.take (j + 1))).1 := by
              rw [HRUN.out, HSTEP.out]
              exact matI_bump_ne s hab
            have hG : (fun u v => if u = a ∧ v = b then F a b + s else F u v) b a = F b a := if_neg (fun e => hab e.2)
            rw [hG] at hfin
            have hab2 : (a : Int) ≠ (b : Int) := by omega
            have hak3 : b < (matI k fun u v => if u = a ∧ v = b then fab + s else F u v).length := by rw [matI_length]; exact hbk
            have ca := HO6.out.rows.cell hak3
            have hra := HO6.out.row b hak3
            have hbl2 : a < (nthr (matI k fun u v => if u = a ∧ v = b then fab + s else F u v) b).length := by rw [row_matI_length hbk]; exact hak
            have ea := hra.cell hbl2
            have fa := hra.frozen hbl2
            have sra2 := hra.isSl
            have lra2 := hra.ints.len
            rw [row_matI_length hbk] at lra2
            rw [nthr_matI hbk, nth_row hak, if_neg (fun e => hab e.2)] at ea
            have hset := HO6.out.set hak3 hbl2 (F b a + s)
            rw [matI_set hbk, ← HFAB.out, hfin] at hset
            have hbse := HB6.out.setCell (p := vat (nthv os b) a) (by rw [vat_block]; exact (HO6.out.blk hak3).1) (.int .i64 (F b a + s))
            have hase : OwnI (W6.setCell (vat (nthv os b) a) (.int .i64 (F b a + s))) B3 atv S := HA6.out.setOther (fun c hc e => by
              have a1 := (HA6.out.lt c hc).1
              have a2 := HRB.out b hbk
              rw [vat_block] at e; omega) _
            obtain ⟨rb, hrb0⟩ : ∃ rb, nthv os b = rb := ⟨_, rfl⟩
            rw [hrb0] at ca ea fa sra2 lra2 hset hbse hase
            obtain ⟨fba, hfba⟩ : ∃ z, F b a = z := ⟨_, rfl⟩
            have hfb2 := HFB.out b a
            rw [hfba] at ea hset hbse hase hfb2
            have hwr2 : IntKind.i64.wrap (fba + s) = fba + s := IntWalk.i64_in _ ⟨by omega, by omega⟩
            have HSET2 := Lib.hid hset; have HBSE2 := Lib.hid hbse; have HASE2 := Lib.hid hase; have HHG := Lib.hid hrb0; have HFBA := Lib.hid hfba; have HAB := Lib.hid hab
            clear hra hset hbse hase hrb0 hfba hfin hG hab
            go_wp2_with fail
            go_region
            clear ea fa ca
            have hdr7 : Below (W6.setCell (vat rb a) (.int .i64 (fba + s))).heap.size (W6.setCell (vat rb a) (.int .i64 (fba + s))) (W6.setCell (vat rb a) (.int .i64 (fba + s))).drew := (Below.refl _ _).drew
            have ha7 := HASE2.out.below hdr7; have ho7 := HSET2.out.below hdr7
            have hb7 := HBSE2.out.drew
            generalize (W6.setCell (vat rb a) (.int .i64 (fba + s))).drew = W7 at ha7 ho7 hb7 ⊢
            have HA7 := Lib.hid ha7; have HO7 := Lib.hid ho7; have HB7 := Lib.hid hb7
            clear hdr7 ha7 ho7 hb7 HASE2 HSET2 HBSE2
            go_wp2_with fail
            have o1 := HA7.out
            have c1 := o1.cell hiS; have c2 := o1.cell hjS
            rw [HP0.out] at c1
            rw [HQ0.out] at c2
            have f1 := o1.frozen hiS
            have o2 := o1.set hiS (q : Int)
            have f2 := o2.frozen (k := i + 1) (by rw [List.length_set]; exact hjS)
            have e2 := o2.cell (k := i + 1) (by rw [List.length_set]; exact hjS)
            have o3 := o2.set (k := i + 1) (by rw [List.length_set]; exact hjS) (p : Int)
            have gA := o1.ge hiS; have gB := o1.ge hjS
            rw [vat_block] at gA gB
            have rA : ∀ b, Go.Sl.row outv = some b → vblk atv ≠ b := fun b hb e => by obtain ⟨_, e2⟩ := row_eq hb; omega
            have rB : ∀ i, i < (matI k fun _ _ => 0).length → vblk atv ≠ vblk (nthv os i) := fun i hi e => by rw [matI_length] at hi; have := HRB.out i hi; omega
            have r3 := (HO7.out.setFree (p := vat atv i) (by rw [vat_block]; exact rA) (by rw [vat_block]; intro i hi; exact rB i (by rw [matI_length] at hi ⊢; exact hi)) (.int .i64 (q : Int))).setFree (p := vat atv (i + 1)) (by rw [vat_block]; exact rA) (by rw [vat_block]; intro i hi; exact rB i (by rw [matI_length] at hi ⊢; exact hi)) (.int .i64 (p : Int))
            have b3 := (HB7.out.setCell (p := vat atv i) (by rw [vat_block]; omega) (.int .i64 (q : Int))).setCell (p := vat atv (i + 1)) (by rw [vat_block]; omega) (.int .i64 (p : Int))
            rw [← HSW.out, ← HST2.out] at o3
            have o4 := o3.below (Below.refl _ _).drew
            have r4 := r3.below (Below.refl _ _).drew
            have b4 := b3.drew
            have HO4 := Lib.hid o4; have HR4 := Lib.hid r4; have HB4 := Lib.hid b4
            clear o1 o2 o3 r3 b3 o4 r4 b4 rA rB gA gB
            go_region
            go_wp2_with fail
            go_roundw
            case rel => exact ⟨j + 1, by omega, by go_num, HO4.out, HR4.out, HB4.out⟩
            case measure => simp [intOf]; omega
        · obtain rfl : j = len := by omega
          have hfull : xs.take j = xs := List.take_of_length_le (by rw [HLN.out]; exact Nat.le_refl _)
          rw [hfull] at hro
          have hinv := lkRun_inv (lab := lab) (n := n) (N := k) (by omega) (fun i hi => by have := HLAB.out.lt i (by rw [HPL.out]; exact hi); rw [HN.out] at this; exact this) (xs := xs) (fun x hx => HXA.out x hx)
          obtain ⟨F, hF⟩ : ∃ F, (lkRun lab n xs).1 = F := ⟨_, rfl⟩
          have hFb : ∀ u v, (F u v).natAbs ≤ 30 := fun u v => by rw [← hF]; have := hinv.bd u v; have := HLN.out; omega
          rw [hF, ← half_start] at hro
          have HF := Lib.hid hF; have HFB := Lib.hid hFb; have HRO3 := Lib.hid hro; have HBR3 := Lib.hid hbr
          clear hfull hinv hF hFb hro hbr ha hof hw0
          go_wp2_with fail
          go_loopw [132] (fun i wr => ∃ a : Nat, a ≤ k ∧ i = .int .i64 a ∧ RO wr B2 outv os (matI k (halfF F a 0)) ∧ Below B2 W3 wr) (fun i _ => k - (intOf i).toNat)
          case atStart => exact ⟨0, Nat.zero_le _, rfl, HRO3.out, HBR3.out⟩
          case round =>
            obtain ⟨a, ha, rfl, hro, hbr⟩ := hrel
            by_cases hak : a < k
            · have HRO4 := Lib.hid hro; have HBR4 := Lib.hid hbr
              clear hro hbr
              go_wp2_with fail
              go_loopw [137] (fun i wr => ∃ b : Nat, b ≤ k ∧ i = .int .i64 b ∧ RO wr B2 outv os (matI k (halfF F a b)) ∧ Below B2 W3 wr) (fun i _ => k - (intOf i).toNat)
              case atStart => exact ⟨0, Nat.zero_le _, rfl, HRO4.out, HBR4.out⟩
              case round =>
                rename World => Wr
                obtain ⟨b, hb, rfl, hro, hbr⟩ := hrel
                by_cases hbk : b < k
                · by_cases hab : a = b
                  · have hs := half_same (N := k) (F := F) (a := a)
                    subst hab
                    rw [hs] at hro
                    have HRO5 := Lib.hid hro; have HBR5 := Lib.hid hbr
                    clear hro hbr hs
                    go_wp2_with fail
                    go_roundw
                    case rel => exact ⟨a + 1, by omega, by go_num, HRO5.out, HBR5.out⟩
                    case measure => simp [intOf]; omega
                  · have hab2 : (a : Int) ≠ (b : Int) := by omega
                    have hak3 : a < (matI k (halfF F a b)).length := by rw [matI_length]; exact hak
                    have ca := hro.rows.cell hak3
                    have hra := hro.row a hak3
                    have hbl2 : b < (nthr (matI k (halfF F a b)) a).length := by rw [row_matI_length hak]; exact hbk
                    have ea := hra.cell hbl2
                    have fa := hra.frozen hbl2
                    have sra2 := hra.isSl
                    have lra2 := hra.ints.len
                    rw [row_matI_length hak] at lra2
                    rw [nthr_matI hak, nth_row hbk, half_at] at ea
                    have hset := hro.set hak3 hbl2 ((F a b).tdiv 2)
                    rw [matI_set hak, half_step hab] at hset
                    have hbse := hbr.setCell (p := vat (nthv os a) b) (by rw [vat_block]; exact (hro.blk hak3).1) (.int .i64 ((F a b).tdiv 2))
                    obtain ⟨ra, hra0⟩ : ∃ ra, nthv os a = ra := ⟨_, rfl⟩
                    rw [hra0] at ca ea fa sra2 lra2 hset hbse
                    have hfb2 := HFB.out a b
                    obtain ⟨fab, hfab⟩ : ∃ z, F a b = z := ⟨_, rfl⟩
                    rw [hfab] at ea hset hbse hfb2
                    obtain ⟨h, hh⟩ : ∃ h, fab.tdiv 2 = h := ⟨_, rfl⟩
                    rw [hh] at hset hbse
                    have hhb : h.natAbs ≤ 30 := by rw [← hh, Int.natAbs_tdiv]; exact Nat.le_trans (Nat.div_le_self _ _) hfb2
                    have hw64 : wrap64 h = h := IntWalk.wrap64_in _ (by omega)
                    have HSET := Lib.hid hset; have HBSE := Lib.hid hbse; have HRA0 := Lib.hid hra0; have HFAB := Lib.hid hfab; have HAB := Lib.hid hab
                    clear hra hset hbse hra0 hfab hro hbr hab
                    go_wp2_with fail
                    go_roundw
                    case rel => exact ⟨b + 1, by omega, by go_num, HSET.out, HBSE.out⟩
                    case measure => simp [intOf]; omega
                · obtain rfl : b = k := by omega
                  rw [half_row] at hro
                  have HRO5 := Lib.hid hro; have HBR5 := Lib.hid hbr
                  clear hro hbr
                  go_wp2_with fail
                  go_roundw
                  case rel => exact ⟨a + 1, by omega, by go_num, HRO5.out, HBR5.out⟩
                  case measure => simp [intOf]; omega
            · obtain rfl : a = k := by omega
              rw [half_end] at hro
              have HRO5 := Lib.hid hro.rows; have HBF := Lib.hid (HBW.out.trans (hbr.mono hwB2))
              clear hro hbr
              go_wp2_with fail
              go_ret2
              exact ⟨_, C, lab, rfl, HCY.out, HLAB.out, ⟨os, by rw [HN.out, HF.out]; exact HRO5.out⟩, HBF.out⟩

end Go.Proofs.Ytckopilciekfbaa


/- slices.DeleteFunc over rows of which the last ones are to go. -/
import Derived.Test.YtnmklkjlcpgjmaaQTopWordProblem0
import Derived.Test.YtnmklkjlcpgjmaaQTopWordProblem1
import Derived.Test.YtnmklkjlcpgjmaaQTopWordProblem3
import Derived.Test.YtnmklkjlcpgjmaaQTopWordProblem5
import Derived.Test.YtnmklkjlcpgjmaaQTopWordProblem6
import Derived.Test.YtnmklkjlcpgjmaaQTopWordProblem7
import Derived.Test.YtnmklkjlcpgjmaaQTopWordProblem8
import Derived.Test.YtnmklkjlcpgjmaaQTopWordProblem9
import Derived.Test.YtnmklkjlcpgjmaaQTopWordProblem10
import Derived.Test.YtnmklkjlcpgjmaaQTopWordProblem11
import Derived.Test.YtnmklkjlcpgjmaaQTopWordProblem12
import Derived.Test.YtnmklkjlcpgjmaaQTopWordProblem13
import Derived.Test.YtnmklkjlcpgjmaaQTopWordProblem15
import Derived.Test.YtnmklkjlcpgjmaaQTopWordProblem16
import Derived.Test.YtnmklkjlcpgjmaaQTopWordProblem17
import Derived.Test.YtnmklkjlcpgjmaaQTopWordProblem18
import Derived.Test.YtnmklkjlcpgjmaaQTopWordProblem19
import Derived.Test.YtnmklkjlcpgjmaaQTopWordProblem20
import Derived.Test.YtnmklkjlcpgjmaaQTopWordProblem31
import Derived.Test.YtnmklkjlcpgjmaaQTopWordProblem32
import Derived.Test.YtnmklkjlcpgjmaaQTopWordProblem34
import Derived.Test.YtnmklkjlcpgjmaaQTopWordProblem35
import Derived.Test.YtnmklkjlcpgjmaaQTopWordProblem36
import Derived.Test.YtnmklkjlcpgjmaaQTopWordProblem37

namespace Go.Proofs.Ytnmklkjlcpgjmaa
open Go.RowKit Go.Sl

theorem OwnG.setBehind {w : World} {B : Nat} {e : TypeId} {v : Value} {cs : List Value} (h : OwnG w B e v cs) {o : Nat} (ho : voff v + cs.length ≤ o) (u : Value) : OwnG (w.setCell ⟨vblk v, o, none⟩ u) B e v cs := by
  refine ⟨h.1, h.2.1, fun h0 => ?_⟩
  obtain ⟨hB, cur, hh, hs, hc⟩ := h.2.2 h0
  refine ⟨hB, cur.setIfInBounds o u, ?_, by simpa using hs, fun j hj => ?_⟩
  · simp [World.setCell, Array.getElem?_modify, hh]
  · rw [Array.getElem?_setIfInBounds_ne (by omega)]; exact hc j hj
theorem ownG_setCells {B : Nat} {e : TypeId} {v : Value} {cs : List Value} : ∀ (us : List Value) (o : Nat) (w : World), OwnG w B e v cs → voff v + cs.length ≤ o → OwnG (w.setCells (vblk v) o us) B e v cs
  | [], _, _, h, _ => h
  | u :: us, o, w, h, ho => ownG_setCells us (o + 1) (w.setCell ⟨vblk v, o, none⟩ u) (h.setBehind ho u) (by omega)
theorem chd_setCells {b : Nat} {S : Nat → Prop} (hb : S b) : ∀ (us : List Value) (o : Nat) (w : World), Chd w (w.setCells b o us) S
  | [], _, w => .refl w S
  | u :: us, o, w => (Chd.set (p := ⟨b, o, none⟩) hb u).trans (chd_setCells hb us (o + 1) (w.setCell ⟨b, o, none⟩ u))
/-- clear(s[i:]) of rows. -/
theorem run_clear_rows {w : World} (ty : TypeId) {B : Nat} {v : Value} {vs : List Value} {F : List (List Int)} {i n c : Nat} (h : RG w B v vs F) (hn : F.length = n) (hi : i ≤ n) (hc : vcap v = c) :
    ∃ w2, (Builtin.clear_ #[41] ty #[vcut v i n c 1]).run Try.prog w = .ok (.tuple #[]) w2 ∧ RG w2 B (vcut v 0 i c 1) (vs.take i) (F.take i) ∧ Chd w w2 (fun k => Go.Sl.row v = some k) := by
  have hhead := h.head (k := i) (by omega)
  rw [hc] at hhead
  by_cases h0 : i = n
  · refine ⟨w, ?_, hhead, .refl _ _⟩
    have e : vcut v i n c 1 = .slice (if c = i then vbase v else (vbase v).map (·.add (i * 1))) 0 (c - i) := by unfold vcut; rw [show n - i = 0 by omega]
    rw [e]
    cases (if c = i then vbase v else (vbase v).map (·.add (i * 1))) <;> simp [Builtin.clear_, run_underlying Try.underlying41]
  · obtain ⟨ti, hti, hz0, hz1, hz2⟩ := info_parts info_slice
    have hl := h.len
    have hcapp : 0 < vcap v := h.own.cap_of (j := i) (by omega)
    have hvl := h.own.len
    have hle := h.own.isSl.le
    have hcut : vcut v i n c 1 = .slice (some ⟨vblk v, voff v + i, none⟩) (n - i) (c - i) := by
      have hne : ¬ c = i := by omega
      have hbase := h.own.isSl.base hcapp
      simp [vcut, hne, hbase, vat, Addr.add_lit]
    have hr := Lib.run_clear_slice (P := Try.prog) w 41 22 ty (.slice none 0 0) Try.underlying41 (fun w => by simp [zeroValue, typeInfo, hti, hz0]) rfl rfl (vblk v) (voff v + i) (n - i) (c - i) (by omega)
      (by intro j hj; have := h.own.cell (j := i + j) (by omega); rw [Nat.add_assoc]; unfold vat at this; rw [this]; rfl)
      (by intro j hj; have := h.own.frozen (j := i + j) (by omega); rw [Nat.add_assoc]; exact this)
    rw [hcut, hr]
    have hch : Chd w (w.setCells (vblk v) (voff v + i) (List.replicate (n - i) (.slice none 0 0))) (fun k => Go.Sl.row v = some k) := chd_setCells (row_some hcapp) _ _ _
    refine ⟨_, rfl, ⟨?_, hhead.len, fun j hj => ?_, hhead.pos, hhead.each⟩, hch⟩
    · have eb : vblk (vcut v 0 i c 1) = vblk v ∧ voff (vcut v 0 i c 1) = voff v := by
        have hne : ¬ c = 0 := by omega
        have h1 := vat_cut h.own.isSl (l := 0) (h := i) (m := c) (s := 1) 0 (by omega) (by omega)
        refine ⟨?_, ?_⟩
        · have := congrArg Addr.block h1; rwa [vat_block, vat_block] at this
        · have := congrArg Addr.off h1; simpa [vat] using this
      rw [← eb.1]
      refine ownG_setCells _ _ _ hhead.own ?_
      rw [eb.2, List.length_take]; omega
    · refine Own.of_block (hhead.row j hj) fun k hk => ?_
      refine hch.block k ((hhead.row j hj).lt k hk).2 fun e => ?_
      have h1 := hhead.rowAt hj
      have hji : j < i := by simp at hj; omega
      have h2 : nthv (vs.take i) j = nthv vs j := by simp [nthv, hji]
      rw [h2] at h1 hk
      exact h.apart (i := j) (by omega) (by rw [e, ← hk, h1])

/-- What the closure tells of a row. -/
theorem settle1_calls (p one : Value) (xs : List Int) (n cb : Nat) (W : World) (hp : Ints W p xs) (hc : W.cell? ⟨cb, 0, none⟩ = some one) (ho : Ints W one (iota n)) :
    Calls Try.prog 51 #[p, .pointer (some ⟨cb, 0, none⟩)] W fun e W' => e = .returned (.bool (decide (xs = iota n))) ∧ Below W.heap.size W W' := by
  have sp := hp.isSl
  have so := ho.isSl
  have HP := Lib.hid hp; have HO := Lib.hid ho
  clear hp ho
  go_enter Try.func51, Try.ntmps51
  go_wp2_with fail
  refine (equal_calls p one xs (iota n) _ HP.out HO.out).mono ?_
  rintro e w1 ⟨rfl, hb⟩
  go_wp2_with fail
  go_ret
  exact ⟨rfl, hb⟩

set_option maxRecDepth 100000 in
/-- The first of the rows that is the identity, or -1. -/
theorem idxRows_calls (v one : Value) (vs : List Value) (F : List (List Int)) (n m cb : Nat) (w : World) (B : Nat) (h : RG w B v vs F) (hc : w.cell? ⟨cb, 0, none⟩ = some one) (hcb : cb < w.heap.size) (ho : Ints w one (iota n)) (hm : m ≤ F.length) (hl : F.length ≤ 1000)
    (hno : ∀ j, j < m → nthr F j ≠ iota n) (hyes : m < F.length → nthr F m = iota n) :
    Calls Try.prog 53 #[v, .func (.func 51) #[] #[.pointer (some ⟨cb, 0, none⟩)]] w fun e w' => e = .returned (.int .i64 (if m < F.length then (m : Int) else -1)) ∧ Below w.heap.size w w' := by
  have sv := h.own.isSl
  have lv := h.own.len
  rw [h.len] at lv
  have hk := enters_some (Go.Proofs.enters_of Try.func51 (by kernel_rfl) rfl)
  obtain ⟨L, hL⟩ : ∃ L, F.length = L := ⟨_, rfl⟩
  rw [hL] at lv hm hl hyes
  have H := Lib.hid h; have HC := Lib.hid hc; have HO := Lib.hid ho; have HNO := Lib.hid hno; have HYES := Lib.hid hyes; have HL := Lib.hid hL
  clear h hc ho hno hyes
  rw [hL]
  clear hL
  have HLT := Lib.hid hcb; clear hcb
  go_enter Try.func53, Try.ntmps53
  go_wp2_with fail
  go_loopw [8] (fun i wr => ∃ k : Nat, k ≤ m ∧ i = .int .i64 k ∧ Below w.heap.size w wr) (fun i _ => L + 1 - (intOf i).toNat)
  case atStart => exact ⟨0, Nat.zero_le _, rfl, Below.refl _ _⟩
  case round =>
    obtain ⟨j, hj, rfl, hb⟩ := hrel
    by_cases hlt : j < L
    · have hR := H.out.below hb
      have c1 := hR.own.cell (j := j) (by rw [hR.len, HL.out]; exact hlt)
      have e1 : vs[j]'(by rw [hR.len, HL.out]; exact hlt) = nthv vs j := by simp [nthv, hR.len, HL.out, hlt]
      rw [e1] at c1
      have r1 := (hR.row j (by rw [HL.out]; exact hlt)).ints
      have s1 := r1.isSl
      have HS := Lib.hid (settle1_calls (nthv vs j) one (nthr F j) n cb wr r1 (by have := hb.cell (p := ⟨cb, 0, none⟩) HLT.out; rw [this]; exact HC.out) (HO.out.below hb))
      obtain ⟨q, hq⟩ : ∃ q, nthv vs j = q := ⟨_, rfl⟩
      rw [hq] at c1 s1 HS
      have HB := Lib.hid hb
      by_cases hjm : j < m
      · have hd : decide (nthr F j = iota n) = false := by simpa using HNO.out j hjm
        rw [hd] at HS
        clear hR r1 hd hb e1 hq
        go_wp2_with fail
        refine HS.out.mono ?_
        rintro e w1 ⟨rfl, hb1⟩
        have HB1 := Lib.hid hb1; clear hb1
        go_wp2_with fail
        go_roundw
        case rel => exact ⟨j + 1, by omega, by go_num, Below.chain HB.out HB1.out⟩
        case measure => simp [intOf]; omega
      · obtain rfl : j = m := by omega
        have hd : decide (nthr F j = iota n) = true := by simpa using HYES.out hlt
        rw [hd] at HS
        clear hR r1 hd hb e1 hq
        go_wp2_with fail
        refine HS.out.mono ?_
        rintro e w1 ⟨rfl, hb1⟩
        have HB1 := Lib.hid hb1; clear hb1
        go_wp2_with fail
        go_ret
        exact ⟨rfl, Below.chain HB.out HB1.out⟩
    · obtain rfl : j = L := by omega
      obtain rfl : m = j := by omega
      have HB := Lib.hid hb; clear hb
      go_wp2_with fail
      go_ret
      exact ⟨by simp, HB.out⟩

set_option maxRecDepth 100000 in
set_option maxHeartbeats 2000000 in
theorem delRows_calls (v one : Value) (vs : List Value) (U : List (List Int)) (n m cb : Nat) (w : World) (B : Nat) (h : RG w B v vs (U ++ List.replicate m (iota n))) (hc : w.cell? ⟨cb, 0, none⟩ = some one) (hcb : cb < w.heap.size) (ho : Ints w one (iota n)) (hl : (U ++ List.replicate m (iota n)).length ≤ 1000)
    (hno : iota n ∉ U) :
    Calls Try.prog 50 #[v, .func (.func 51) #[] #[.pointer (some ⟨cb, 0, none⟩)]] w fun e w' => ∃ u us, e = .returned u ∧ RG w' B u us U ∧ Chd w w' (fun k => Go.Sl.row v = some k) := by
  have sv := h.own.isSl
  have lv := h.own.len
  rw [h.len] at lv
  have i63 := sv.i63
  have hle := sv.le
  have cmax := sv.2.2.1
  have hk := enters_some (Go.Proofs.enters_of Try.func51 (by kernel_rfl) rfl)
  have h1 : ∀ j, j < U.length → nthr (U ++ List.replicate m (iota n)) j ≠ iota n := fun j hj e => by
    have : nthr (U ++ List.replicate m (iota n)) j = U[j] := by simp [nthr, List.getElem?_append, hj]
    rw [this] at e
    exact hno (e ▸ List.getElem_mem hj)
  have h2 : ∀ j, U.length ≤ j → j < (U ++ List.replicate m (iota n)).length → nthr (U ++ List.replicate m (iota n)) j = iota n := fun j hj hj2 => by
    simp at hj2
    simp [nthr, List.getElem?_append, show ¬ j < U.length by omega, show j - U.length < m by omega]
  have HI := Lib.hid (idxRows_calls v one vs _ n U.length cb w B h hc hcb ho (by simp) hl h1 (fun g => h2 _ (Nat.le_refl _) g))
  obtain ⟨L, hL⟩ : ∃ L, (U ++ List.replicate m (iota n)).length = L := ⟨_, rfl⟩
  obtain ⟨M, hM⟩ : ∃ M, U.length = M := ⟨_, rfl⟩
  obtain ⟨c, hcap⟩ : ∃ c, vcap v = c := ⟨_, rfl⟩
  rw [hL, hM] at HI
  rw [hL] at lv hl h2
  have hML : M ≤ L := by rw [← hL, ← hM]; simp
  have htake : (U ++ List.replicate m (iota n)).take M = U := by rw [← hM]; simp
  have HTK := Lib.hid htake
  have H := Lib.hid h; have HC := Lib.hid hc; have HO := Lib.hid ho; have H2 := Lib.hid h2; have HL := Lib.hid hL; have HM := Lib.hid hM; have HLT := Lib.hid hcb; have HCAP := Lib.hid hcap
  have hlc : L ≤ c := by rw [← hcap]; omega
  rw [hcap] at cmax
  clear h hc ho h1 h2 hno hL hcb htake hcap hle
  by_cases hlt : M < L
  · rw [if_pos hlt] at HI
    have m1 : (((M : Int)) == -1) = false := by simp
    have CM := Lib.hid cmax; clear cmax
    have hM' := HM.out
    clear hM'
    go_enter Try.func50, Try.ntmps50
    go_wp2_with fail
    refine HI.out.mono ?_
    rintro e w1 ⟨rfl, hb1⟩
    have HB1 := Lib.hid hb1; clear hb1
    go_wp2_with fail
    go_loopw [5, 6] (fun i j wr => ∃ b : Nat, i = .int .i64 M ∧ j = .int .i64 b ∧ M < b ∧ b ≤ L ∧ Below w.heap.size w wr) (fun _ j _ => L - (intOf j).toNat)
    case atStart => exact ⟨M + 1, rfl, by go_num, by omega, by omega, HB1.out⟩
    case round =>
      obtain ⟨b, rfl, rfl, hab, hbn, hb⟩ := hrel
      by_cases hbl : b < L
      · have hR := H.out.below hb
        have c1 := hR.own.cell (j := b) (by rw [hR.len, HL.out]; exact hbl)
        have e1 : vs[b]'(by rw [hR.len, HL.out]; exact hbl) = nthv vs b := by simp [nthv, hR.len, HL.out, hbl]
        rw [e1] at c1
        have r1 := (hR.row b (by rw [HL.out]; exact hbl)).ints
        have s1 := r1.isSl
        have hd : decide (nthr (U ++ List.replicate m (iota n)) b = iota n) = true := by simpa using H2.out b (by rw [HM.out]; omega) hbl
        have HS := Lib.hid (settle1_calls (nthv vs b) one _ n cb wr r1 (by have := hb.cell (p := ⟨cb, 0, none⟩) HLT.out; rw [this]; exact HC.out) (HO.out.below hb))
        rw [hd] at HS
        obtain ⟨q, hq⟩ : ∃ q, nthv vs b = q := ⟨_, rfl⟩
        rw [hq] at c1 s1 HS
        have HB := Lib.hid hb
        clear hR r1 hd hb e1 hq
        go_wp2_with fail
        refine HS.out.mono ?_
        rintro e w2 ⟨rfl, hb2⟩
        have HB2 := Lib.hid hb2; clear hb2
        go_wp2_with fail
        go_roundw
        case rel => exact ⟨b + 1, rfl, by go_num, by omega, by omega, Below.chain HB.out HB2.out⟩
        case measure => simp [intOf]; omega
      · obtain rfl : b = L := by omega
        obtain ⟨w2, hcl, hrg, hch⟩ := run_clear_rows 0 (H.out.below hb) HL.out hML HCAP.out
        rw [HTK.out] at hrg
        have hcv := HCAP.out
        have hsl := hrg.own.isSl
        have HRG := Lib.hid hrg; have HCH := Lib.hid ((Chd.of_below hb).trans hch)
        clear hb hrg hch
        go_wp2_with fail
        go_ret
        exact ⟨_, _, rfl, HRG.out, HCH.out⟩
  · obtain rfl : M = L := by omega
    rw [if_neg hlt] at HI
    have hfin : U ++ List.replicate m (iota n) = U := by
      have := HTK.out
      rw [List.take_of_length_le (by rw [HL.out]; exact Nat.le_refl _)] at this
      exact this
    have HF := Lib.hid hfin; clear hfin
    go_enter Try.func50, Try.ntmps50
    go_wp2_with fail
    refine HI.out.mono ?_
    rintro e w1 ⟨rfl, hb1⟩
    have HB1 := Lib.hid hb1; clear hb1
    go_wp2_with fail
    go_ret
    refine ⟨_, vs, rfl, ?_, Chd.of_below HB1.out⟩
    have := H.out.below HB1.out
    rwa [HF.out] at this

end Go.Proofs.Ytnmklkjlcpgjmaa


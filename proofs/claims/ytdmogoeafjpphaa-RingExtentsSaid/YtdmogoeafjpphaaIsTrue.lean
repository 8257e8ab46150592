/- ringing.IsTrue walked where all rows differ. -/
import Derived.Test.YtdmogoeafjpphaaRingRows
import Derived.Test.YtdmogoeafjpphaaExtLaw
import Derived.Maps.OwnSet
namespace Go.Proofs.Ytdmogoeafjpphaa
open Go.RowKit Go.Sl Go.Maps

theorem mlaw : Keyed Try.prog 3 := int_keyed Try.underlying3
theorem mzero (w : World) : (zeroValue 3).run Try.prog w = .ok (.int .i64 0) w := by kernel_rfl
theorem rk_wf {x : Nat} (h : x ≤ 1000000000) : (Lit.int .i64 (x : Int)).wf = true := by
  simp only [Lit.wf, IntKind.min, IntKind.max, IntKind.signed, IntKind.bits, Bool.and_eq_true, decide_eq_true_eq, if_true]
  omega
/-- The keys from k on have not come yet. -/
def Fresh (D : DataW Unit) (key : Nat → Nat) (k N : Nat) : Prop := ∀ j, k ≤ j → j < N → has D (.int .i64 (key j : Int)) = false
theorem fresh_put {D : DataW Unit} {key : Nat → Nat} {k N : Nat} (h : Fresh D key k N) (hd : ∀ i j, i < j → j < N → key i ≠ key j) (x : DataW Unit) : Fresh (D.put (.int .i64 (key k : Int)) x) key (k + 1) N := by
  intro j hj hN
  rw [has_put_other (fun e => hd k j (by omega) hN (by injection e with _ h; exact (Int.ofNat.inj h).symm))]
  exact h j (by omega) hN

theorem grown_trans {w w1 w2 : World} {r : Option Nat} (h : w.grownBy w1 r) (k : w1.grownBy w2 r) : w.grownBy w2 r :=
  ⟨k.os.trans h.os, k.tape.trans h.tape, k.output.trans h.output, Nat.le_trans h.size k.size, fun i hi hr => (k.block i (Nat.lt_of_lt_of_le hi h.size) hr).trans (h.block i hi hr)⟩
theorem grown_refl (w : World) (r : Option Nat) : w.grownBy w r := ⟨rfl, rfl, rfl, Nat.le_refl _, fun _ _ _ => rfl⟩
theorem rows_grown {w w' : World} {B b : Nat} {u : Value} {us : List Value} {xss : List (List Int)} (h : RO w B u us xss) (hg : w.grownBy w' (some b)) (hb : b < B) (h0 : 0 < xss.length) : RowsV w' u us xss := by
  have hcap := h.rows.len
  have hle := h.rows.isSl.le
  refine ⟨h.rows.1.grown hg (fun k hk e => ?_), h.len, fun i hi => (h.row i hi).ints.grown hg (fun k hk e => ?_)⟩
  · cases hk
    have := (h.own.lt (vblk u) (row_some (by omega))).1
    omega
  · cases hk
    have := (h.blk hi).1
    omega

set_option maxRecDepth 100000 in
set_option maxHeartbeats 2000000 in
theorem isTrue_calls (m : Nat) (v : Value) (cs : List Int) (w : World) (hv : Ints w v cs) (hm : m < 7) (hc : ∀ c ∈ cs, Chg m c) (hl : cs.length ≤ 5040)
    (hd : ∀ i j, i < j → j < cs.length → rkAt (m + 1) cs i ≠ rkAt (m + 1) cs j) :
    Calls Try.prog 54 #[.int .i64 ((m : Int) + 1), v] w fun e w' => e = .returned (.tuple #[.bool true, .int .i64 0]) ∧ Below w.heap.size w w' := by
  have sv := hv.isSl
  have lv := hv.len
  have hmm := @run_makeMap Try.prog
  have HV := Lib.hid hv; have HC := Lib.hid hc; have HD := Lib.hid hd
  obtain ⟨N, hN⟩ : ∃ N, cs.length = N := ⟨_, rfl⟩
  rw [hN] at lv HD hl
  have HN := Lib.hid hN
  clear hv hc hd hN
  go_enter Try.func54, Try.ntmps54
  go_wp2_with fail
  refine (rcheck_calls m v cs _ HV.out hm HC.out (by rw [HN.out]; exact hl)).mono ?_
  rintro e w1 ⟨rfl, hb1⟩
  have HB1 := Lib.hid hb1; have HV1 := Lib.hid (HV.out.below hb1)
  clear hb1
  go_wp2_with fail
  have ho := World.ownsMap_made (H := Unit) w1 Try.prog 3 (plainElem Try.prog 3)
  have ba : Below w1.heap.size w1 (w1.alloc (.map #[] 0)) := (Below.refl _ _).alloc (Nat.le_refl _) _
  obtain ⟨B, hB⟩ : ∃ B, w1.heap.size = B := ⟨_, rfl⟩
  refine (rows_calls m v cs _ (HV1.out.below ba) hm HC.out (by rw [HN.out]; exact hl)).mono ?_
  rintro e w2 ⟨u, us, rfl, hu, hb2⟩
  have ho2 := ho.kept (w' := w2) (row := none) ⟨hb2.os, hb2.tape, hb2.output, hb2.size, fun k hk _ => hb2.block k hk⟩ (by simp)
  have su := hu.rows.isSl
  have lu := hu.rows.len
  rw [rowsTo_length, HN.out] at lu
  have hcap := su.le
  have HU := Lib.hid hu; have HB2 := Lib.hid (Below.chain ba hb2); have HO := Lib.hid ho2
  have hz2 : w1.heap.size < w2.heap.size := by have := hb2.size; simp at this; omega
  clear hu hb2 ba ho ho2 hB
  have hcs : IsSl (vcut u 1 (N + 1) (vcap u) 1) := isSl_cut su (by omega) (by omega) (Nat.le_refl _)
  have hcl : vlen (vcut u 1 (N + 1) (vcap u) 1) = N := by rw [vlen_cut]; omega
  go_wp2_with fail
  go_loopw [24] (fun i wr => ∃ (k : Nat) (D : DataW Unit), k ≤ N ∧ i = .int .i64 k ∧ wr.ownsMap Try.prog 3 (plainElem Try.prog 3) w1.heap.size k D ∧ Maps.size D = k ∧ Fresh D (rkAt (m + 1) cs) k N ∧ w2.grownBy wr (some w1.heap.size)) (fun i _ => N - (intOf i).toNat)
  case atStart => exact ⟨0, .map [], Nat.zero_le _, rfl, HO.out, rfl, fun _ _ _ => rfl, grown_refl _ _⟩
  case round =>
    obtain ⟨k, D, hk, rfl, hown, hsz, hfr, hg⟩ := hrel
    by_cases hlt : k < N
    · have hrows := rows_grown HU.out hg (by simp) (by rw [rowsTo_length]; omega)
      have ck := hrows.cell (i := k + 1) (by rw [rowsTo_length, HN.out]; omega)
      have hrow := hrows.row (i := k + 1) (by rw [rowsTo_length, HN.out]; omega)
      rw [nthr_rowsTo (by rw [HN.out]; omega)] at hrow
      have srow := hrow.isSl
      have hperm := runL_isPerm (n := m + 1) (cs.take (k + 1)) (by omega)
      have hrl := rankTo_small (runL (iota (m + 1)) (cs.take (k + 1))) (by rw [run_len]; omega) _ (Nat.le_refl _)
      have HR := Lib.hid (rank_calls _ _ wr hrow hperm (by rw [run_len]; omega))
      obtain ⟨q, hq⟩ : ∃ q, rkAt (m + 1) cs k = q := ⟨_, rfl⟩
      rw [show rankL (runL (iota (m + 1)) (cs.take (k + 1))) = q from hq] at HR
      have hq9 : q ≤ 1000000000 := by rw [← hq]; exact hrl
      have hkey : keyOf Try.prog 3 (.int .i64 (q : Int)) = some (.int .i64 (q : Int)) := keyOf_int_mk Try.underlying3 (rk_wf hq9)
      have hnot := hfr k (Nat.le_refl _) hlt
      rw [hq] at hnot
      have HF := Lib.hid hfr; have HG := Lib.hid hg; have HS := Lib.hid hsz; have HQ := Lib.hid hq; have HNOT := Lib.hid hnot
      have hca : vat (vcut u 1 (N + 1) (vcap u) 1) k = vat u (k + 1) := by rw [vat_cut su k (by omega) (Nat.le_refl _)]; congr 1; omega
      clear hrows hrow hperm hrl hfr hg hsz hq hnot
      go_wp2_with fail
      refine HR.out.mono ?_
      rintro e w' ⟨rfl, rfl⟩
      go_wp2_with (first
        | (at_lookup; refine wpList_lookup_own_int _ rfl _ _ 114 rfl 3 3 .i64 mlaw Try.underlying114 Try.underlying3 (mzero _) w1.heap.size k D rfl hown _ _ rfl hkey ?_; intro c hat hwc; clear hat)
        | (at_mapUpdate; refine wpList_mapUpdate_own _ rfl _ _ _ 114 rfl 3 3 mlaw Try.underlying114 _ w1.heap.size k D rfl hown (by unfold maxLen; omega) _ _ _ rfl rfl hkey _ [] (plainElem_int Try.underlying3 (wrap64_wf _)) ?_; intro w4 hown4 hgrow4))
      refine ⟨⟨k + 1, D.put (.int .i64 (q : Int)) (.lit (.int .i64 (wrap64 (c + 1)))), by omega, by go_num, hown4, ?_, ?_, grown_trans HG.out hgrow4⟩, by simp [intOf]; omega⟩
      · rw [size_put (hown.tidy mlaw), HNOT.out, HS.out]; rfl
      · have := fresh_put HF.out HD.out (.lit (.int .i64 (wrap64 (c + 1))))
        rwa [HQ.out] at this
    · obtain rfl : k = N := by omega
      have hlen := hown.len Try.underlying114 3
      rw [hsz] at hlen
      have HB3 := Lib.hid (Below.chain HB1.out (HB2.out.grown hg HB2.out.size (fun k hk => by cases hk; exact Nat.le_refl _)))
      clear hfr hg hsz
      go_wp2_with fail
      go_ret2
      exact ⟨by simp, HB3.out⟩

end Go.Proofs.Ytdmogoeafjpphaa

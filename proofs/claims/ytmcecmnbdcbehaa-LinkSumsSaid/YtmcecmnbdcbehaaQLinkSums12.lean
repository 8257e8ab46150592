/- perm.cycles, Order and Power walked. -/
import Derived.Test.YtmcecmnbdcbehaaQLinkSums0
import Derived.Test.YtmcecmnbdcbehaaQLinkSums1
import Derived.Test.YtmcecmnbdcbehaaQLinkSums2
import Derived.Test.YtmcecmnbdcbehaaQLinkSums3
import Derived.Test.YtmcecmnbdcbehaaQLinkSums5
import Derived.Test.YtmcecmnbdcbehaaQLinkSums9
import Derived.Test.YtmcecmnbdcbehaaQLinkSums10
import Derived.Test.YtmcecmnbdcbehaaQLinkSums11

namespace Go.Proofs.Ytmcecmnbdcbehaa
open Go.RowKit Go.Sl

theorem info_bool : (Try.prog.info? 4).map (fun i => (i.zero, i.size, i.bytes)) = some (some (.bool false), 1, 1) := by kernel_rfl
/-- The slice is the call's own, and holds these marks. -/
def OwnB (w : World) (B : Nat) (v : Value) (D : List Bool) : Prop := Own w B 4 1 v (D.map Value.bool)
section
variable {w w' : World} {v : Value} {D : List Bool} {B : Nat}
theorem OwnB.isSl (h : OwnB w B v D) : IsSl v := h.1
theorem OwnB.len (h : OwnB w B v D) : vlen v = D.length := by have := h.2.1; simp at this; omega
theorem OwnB.cell (h : OwnB w B v D) {k : Nat} (hk : k < D.length) : w.cell? (vat v k) = some (.bool (at? D k)) := by
  have := Own.cell h (j := k) (by simpa using hk)
  rw [this]
  simp [at?, hk]
theorem OwnB.frozen (h : OwnB w B v D) {k : Nat} (hk : k < D.length) : w.frozen? (vat v k) = false := Own.frozen h (by simpa using hk)
theorem OwnB.set (h : OwnB w B v D) {k : Nat} (hk : k < D.length) (x : Bool) : OwnB (w.setCell (vat v k) (.bool x)) B v (D.set k x) := by
  have := Own.set h (j := k) (by simpa using hk) (.bool x)
  unfold OwnB
  rwa [List.map_set]
theorem OwnB.below (h : OwnB w B v D) (hb : Below w.heap.size w w') : OwnB w' B v D := Own.below h hb
theorem OwnB.grown (h : OwnB w B v D) {r : Option Nat} (hg : w.grownBy w' r) (hr : ∀ k, row v = some k → r ≠ some k) : OwnB w' B v D := Own.grown h hg hr
theorem OwnB.alloc (h : OwnB w B v D) (o : Obj) : OwnB (w.alloc o) B v D := Own.alloc h o
end
theorem wpList_makeB {w : World} {ops : Array Oper} {rest : List Oper} {o : Oper} {a : Act} {Q : Exit → Act → World → Prop} (hgd : o.guard = none) (l c : Operand) (ho : o.op = Op.makeSlice 153 l c)
    (L C : Int) (n : Nat) (hl : a.eval l = .int .i64 L) (hc : a.eval c = .int .i64 C) (hL : L = (n : Int)) (hC : C = (n : Int)) (hm : n ≤ 1000000000000)
    (h : ∀ v' w', OwnB w' w.heap.size v' (List.replicate n false) → w.grownBy w' none → vlen v' = n → w'.heap.size = w.heap.size + 1 → wpList Try.prog ops Q rest (a.put o.dst v') w') : wpList Try.prog ops Q (o :: rest) a w := by
  obtain ⟨i, hi, hz0, hz1, hz2⟩ := info_parts info_bool
  refine wpList_make_sl hgd l c _ ho 4 i (.bool false) 1 Try.underlying153 hi hz0 hz1 hz2 rfl L C n hl hc hL hC (by omega) (by simp only [maxLen]; omega) ?_
  intro v' w' h1 h2 h3 h4
  exact h v' w' (by unfold OwnB; simpa using h1) h2 h3 h4
/-- append of one row's header. -/
theorem wpList_pushV {w : World} {ops : Array Oper} {rest : List Oper} {o : Oper} {a : Act} {Q : Exit → Act → World → Prop} (hgd : o.guard = none) (s x : Operand)
    (ho : o.op = .call { callee := .builtin .append, args := #[s, x], argTypes := #[22, 22] })
    {B : Nat} {v r : Value} {vs : List Value} (hs : a.eval s = v) (hx : a.eval x = .slice (some ⟨w.heap.size, 0, none⟩) 1 1) (hown : Own w B 25 1 v vs) (hr : IsSl r) (hB : B ≤ w.heap.size) (hlen : vs.length ≤ 1000000000000)
    (h : ∀ v' w', Own w' B 25 1 v' (vs ++ [r]) → w.grownBy w' (row v) → (∀ k, row v' = some k → row v = some k ∨ w.heap.size ≤ k) → wpList Try.prog ops Q rest (a.put o.dst v') w') :
    wpList Try.prog ops Q (o :: rest) a (w.alloc (.cells #[r] 25)) := by
  obtain ⟨i, hi, hz0, hz1, hz2⟩ := info_parts info_slice
  have hl : vlen v = vs.length := by have := hown.2.1; omega
  refine wpList_append_sl hgd s x _ ho B 25 i _ 1 24 Try.underlying22 hi hz0 hz1 hz2 rfl (by decide) hs hx (Own.alloc hown _) (sl_one w r 25)
    (by intro u hu; simp at hu; subst hu; exact oneCell'_sl hr) (by simp only [vlen_mk, hl, maxLen]; omega) (by simp only [vlen_mk, hl]; omega) (by simp; omega) ?_
  intro v' w' h1 h2 h3
  refine h v' w' h1 ⟨h2.os, h2.tape, h2.output, by have := h2.size; simp at this; omega, fun k hk hr => (h2.block k (by simp; omega) hr).trans (Below.heap_alloc w _ k hk)⟩ ?_
  intro k hk; rcases h3 k hk with h | h
  · exact .inl h
  · exact .inr (by simp at h; omega)

theorem setCell_size (w : World) (p : Addr) (v : Value) : (w.setCell p v).heap.size = w.heap.size := by simp
theorem row_setB {B1 : Nat} {v d : Value} {j : Nat} (hv : ∀ k, row v = some k → B1 ≤ k) (hd : vblk d < B1) : ∀ k, row v = some k → (vat d j).block ≠ k := fun k hk e => by
  have := hv k hk
  rw [vat_block] at e
  omega

set_option maxHeartbeats 2000000 in
set_option maxRecDepth 100000 in
theorem cyclesO_calls (a : Value) (xs : List Int) (w : World) (ha : Ints w a xs) (hp : IsPerm xs) (hs : xs.length ≤ 9) :
    Calls Try.prog 107 #[a] w fun e w' => ∃ (out : Value) (vs : List Value), e = .returned out ∧ Own w' w.heap.size 25 1 out vs ∧ (∀ v ∈ vs, IsSl v) ∧ CycOK xs (vs.map vlen) ∧ Below w.heap.size w w' := by
  have sa := ha.isSl
  have la := ha.len
  obtain ⟨n, hn⟩ : ∃ n, xs.length = n := ⟨_, rfl⟩
  rw [hn] at la hs
  have HA := Lib.hid ha; have HP := Lib.hid hp; have HN := Lib.hid hn
  clear ha hp hn
  go_enter Try.func107, Try.ntmps107
  go_wp2_with (at_make; refine wpList_makeB rfl _ _ rfl _ _ n rfl rfl rfl rfl (by omega) ?_; intro dn w1 ho1 hg1 hlo1 hsz; have sd := ho1.isSl; have hb1 := below_grown_none (Below.refl _ _) hg1; have HD1 := Lib.hid ho1; have HB1 := Lib.hid hb1; clear ho1 hg1 hb1)
  have hdb : 0 < n → vblk dn < w.heap.size + 1 := fun h => by
    have := World.block_lt_of_cell? w1 _ (HD1.out.cell (k := 0) (by simpa using h))
    rw [vat_block] at this; omega
  have HDB := Lib.hid hdb; clear hdb
  obtain ⟨B1, hB1⟩ : ∃ B1, B1 = w.heap.size + 1 := ⟨_, rfl⟩
  have hB1' : w1.heap.size = B1 := by omega
  go_loopw [3, 13] (fun out i wr => ∃ (k : Nat) (D : List Bool) (vs : List Value), k ≤ n ∧ i = .int .i64 k ∧ OwnB wr w.heap.size dn D ∧ Cyc xs D (vs.map vlen) ∧ (∀ j, j < k → at? D j = true) ∧ Own wr B1 25 1 out vs ∧ (∀ v ∈ vs, IsSl v) ∧ Below w.heap.size w wr ∧ B1 ≤ wr.heap.size) (fun _ i _ => n - (intOf i).toNat)
  case atStart => exact ⟨0, _, [], Nat.zero_le _, rfl, HD1.out, by have := cyc_nil xs; rwa [HN.out] at this, fun j hj => by omega, own_nil _ _ _ _, fun v hv => (by cases hv), HB1.out, by omega⟩
  case round =>
    obtain ⟨i, D, vs, hi, rfl, hd, hcy, hall, ho, hsl, hbr, hsB⟩ := hrel
    have so := ho.1
    by_cases hlt : i < n
    · have HCY := Lib.hid hcy; have HALL := Lib.hid hall; have HSL := Lib.hid hsl; have HO := Lib.hid ho; have HD := Lib.hid hd; have HBR := Lib.hid hbr
      clear hcy hall hsl ho hd hbr
      have hdl : vblk dn < B1 := by have := HDB.out (by omega); omega
      go_wp2_with fail
      obtain ⟨W, hW⟩ : ∃ W : World, W = wr := ⟨_, rfl⟩
      subst hW
      go_loopw [6, 7] (fun c x wr => ∃ (k p : Nat) (E : List Bool) (ys : List Int), x = .int .i64 (p : Int) ∧ itr xs k i = p ∧ Cyc1 xs D i k E ∧ ys.length = k ∧ OwnI wr B1 c ys ∧ OwnB wr w.heap.size dn E ∧ Own wr B1 25 1 u3 vs ∧ (∀ b, row c = some b → row u3 ≠ some b) ∧ Below w.heap.size w wr ∧ B1 ≤ wr.heap.size) (fun c _ _ => n - vlen c)
      case atStart => exact ⟨0, i, D, [], rfl, rfl, cyc1_start HCY.out.len i, rfl, ownI_nil _ _, HD.out, HO.out, fun b hb => by simp [row, vcap] at hb, HBR.out, hsB⟩
      case round =>
        obtain ⟨k, x, E, ys, rfl, hx, hc1, hyl, hc, hd, ho, hap, hbr, hsB⟩ := hrel
        have sc := hc.isSl
        have lc := hc.len
        rw [hyl] at lc
        have hxl : itr xs k i < n := by rw [← HN.out]; exact itr_lt HP.out k (by rw [HN.out]; exact hlt)
        have hEl : E.length = n := by rw [hc1.len, HN.out]
        have ld := hd.len
        rw [hEl] at ld
        rw [hx] at hxl
        have d1 := hd.cell (k := x) (by rw [hEl]; exact hxl)
        have f1 := hd.frozen (k := x) (by rw [hEl]; exact hxl)
        have HC1 := Lib.hid hc1; clear hc1
        have HY := Lib.hid hyl; have HC := Lib.hid hc; have HD2 := Lib.hid hd; have HO2 := Lib.hid ho; have HAP := Lib.hid hap; have HBR2 := Lib.hid hbr; have HEL := Lib.hid hEl; have HX := Lib.hid hx
        clear hyl hc hd ho hap hbr hEl hx
        cases hm : at? E x with
        | false =>
          rw [hm] at d1
          have c1 := (HA.out.below HBR2.out).cell (k := x) (by rw [HN.out]; exact hxl)
          have hnx : nth xs x = ((itr xs (k + 1) i : Nat) : Int) := by
            have h := HP.out.range _ (nth_mem (show x < xs.length by rw [HN.out]; exact hxl))
            show nth xs x = (((nth xs (itr xs k i)).toNat : Nat) : Int)
            rw [HX.out]; omega
          have hkn : k < n := by
            have h1 := cntT_lt (D := E) (i := x) (by rw [HEL.out]; exact hxl) hm
            have h2 := HC1.out.cnt
            rw [HEL.out] at h1
            omega
          have hst := HC1.out.step HP.out (by rw [HN.out]; exact hlt) (by rw [HX.out]; exact hm)
          rw [HX.out] at hst
          have HST := Lib.hid hst; clear hst
          have hd3 := HD2.out.set (k := x) (by rw [HEL.out]; exact hxl) true
          have hc3 : OwnI (wr.setCell (vat dn x) (.bool true)) B1 u6 ys := HC.out.setOther (row_setB (fun k hk => (HC.out.lt k hk).1) hdl) _
          have ho3 : Own (wr.setCell (vat dn x) (.bool true)) B1 25 1 u3 vs := HO2.out.setOther (row_setB (fun k hk => (HO2.out.lt k hk).1) hdl) _
          have hb3 : Below w.heap.size w (wr.setCell (vat dn x) (.bool true)) := HBR2.out.setCell (by rw [vat_block]; exact (Own.ge HD2.out (j := x) (by simp; rw [HEL.out]; exact hxl))) _
          have hs3 : B1 ≤ (wr.setCell (vat dn x) (.bool true)).heap.size := by simpa using hsB
          have hyl2 : ys.length ≤ 1000000000000 := by rw [HY.out]; omega
          have hxn : x < xs.length := by rw [HN.out]; exact hxl
          have hrw : ∀ k, row u6 = some k → w.heap.size ≤ k := fun k hk => by have := (HC.out.lt k hk).1; omega
          have hsw : w.heap.size ≤ (wr.setCell (vat dn x) (.bool true)).heap.size := by omega
          have hdr : ∀ k, row dn = some k → k < B1 := fun k hk => by obtain ⟨_, e⟩ := row_eq hk; omega
          have HC3 := Lib.hid hc3; have HD3 := Lib.hid hd3; have HO3 := Lib.hid ho3; have HB3 := Lib.hid hb3; have HHM := Lib.hid hm; have HNX := Lib.hid hnx; have HRW := Lib.hid hrw; have HDR := Lib.hid hdr
          clear hd3 ho3 hb3 hc3 hm hnx c1 hrw hdr
          go_wp2_with (first
            | (at_builtin; refine wpList_push (v := u6) rfl _ _ rfl rfl (by rw [setCell_size]; rfl) HC3.out hs3 hyl2 ?_; intro c4 w4 hc4 hg4 hr4; have sc4 := hc4.isSl; have hb4 := Below_of_grown HB3.out hg4 hsw HRW.out; have c5 := (HA.out.below hb4).cell hxn; rw [HNX.out] at c5; have HC4 := Lib.hid hc4; have HG4 := Lib.hid hg4; have HR4 := Lib.hid hr4; have HB4 := Lib.hid hb4; clear hc4 hg4 hr4 hb4))
          have hs4 : B1 ≤ w4.heap.size := Nat.le_trans hs3 HG4.out.size
          go_roundw
          case rel =>
            refine ⟨k + 1, _, _, _, rfl, rfl, HST.out, by simp [HY.out], HC4.out, HD3.out.grown HG4.out (fun b hb hc => ?_), HO3.out.grown HG4.out (fun b hb hc => HAP.out b hc hb), fun b hb hc => ?_, HB4.out, hs4⟩
            · have h1 := HDR.out b hb
              have h2 := (HC.out.lt b hc).1
              omega
            · rcases HR4.out b hb with h | h
              · exact HAP.out b h hc
              · have := (HO3.out.lt b hc).2
                omega
          case measure =>
            have h1 := HC4.out.len
            rw [List.length_append, HY.out] at h1
            simp at h1
            omega
        | true =>
          rw [hm] at d1
          have hfin := HC1.out.done HP.out (by rw [HN.out]; exact hlt) HCY.out (by rw [HX.out]; exact hm) HALL.out
          have hme : ∀ j, j < i + 1 → at? E j = true := fun j hj => by
            have h2 : at? E i = true ∧ ∀ j, at? D j = true → at? E j = true := by
              rcases hfin with h | h
              · exact ⟨h.2.2.1, h.2.2.2⟩
              · exact ⟨h.2.2.1, h.2.2.2⟩
            rcases Nat.lt_or_ge j i with h | h
            · exact h2.2 j (HALL.out j h)
            · rw [show j = i by omega]; exact h2.1
          have HME := Lib.hid hme; clear hme
          rcases hfin with ⟨hk, h1, -, -⟩ | ⟨hk, h1, -, -⟩
          · have H1 := Lib.hid h1; clear h1 hm
            subst hk
            go_wp2_with fail
            go_roundw
            case rel => exact ⟨i + 1, E, vs, by omega, by go_num, HD2.out, H1.out, HME.out, HO2.out, HSL.out, HBR2.out, hsB⟩
            case measure => simp [intOf]; omega
          · have H1 := Lib.hid h1; clear h1 hm
            have hk1 : (0 : Int) < (k : Int) := by omega
            have hvl : vs.length ≤ 1000000000000 := by
              have h2 := H1.out.sum
              have h3 := H1.out.pos
              have h4 := cntT_le E
              have h5 : ∀ L : List Nat, (∀ l ∈ L, 0 < l) → L.length ≤ L.sum := fun L => by
                induction L with
                | nil => intro _; simp
                | cons l L ih => intro h; have := ih fun x hx => h x (by simp [hx]); have := h l (by simp); simp; omega
              have h6 := h5 _ h3
              rw [h2] at h6
              rw [HEL.out] at h4
              simp at h6
              omega
            have HVL := Lib.hid hvl; clear hvl
            go_wp2_with fail
            refine (clip_calls u6 ys B1 _ HC.out).mono ?_
            rintro e w' ⟨rfl, r, rfl, hr⟩
            have sr := hr.isSl
            have lr := hr.len
            rw [HY.out] at lr
            have HR := Lib.hid hr; clear hr
            have hrow : ∀ b, row u3 = some b → w.heap.size ≤ b := fun b hb => by have := (HO2.out.lt b hb).1; omega
            have hdr : ∀ b, row dn = some b → b < B1 := fun b hb => by obtain ⟨_, e⟩ := row_eq hb; omega
            have HROW := Lib.hid hrow; have HDR := Lib.hid hdr; clear hrow hdr
            go_wp2_with (first
              | (at_builtin; refine wpList_pushV (v := u3) rfl _ _ rfl rfl rfl HO2.out sr hsB HVL.out ?_; intro o4 w4 ho4 hg4 hr4; have so4 := ho4.1; have HO4 := Lib.hid ho4; have HG4 := Lib.hid hg4; clear ho4 hg4 hr4))
            have hb4 := Below_of_grown HBR2.out HG4.out HBR2.out.size HROW.out
            have hs4 : B1 ≤ w4.heap.size := Nat.le_trans hsB HG4.out.size
            have HB4 := Lib.hid hb4; clear hb4
            go_roundw
            case rel =>
              refine ⟨i + 1, E, vs ++ [r], by omega, by go_num, HD2.out.grown HG4.out (fun b hb hc => ?_), ?_, HME.out, HO4.out, ?_, HB4.out, hs4⟩
              · have h1 := HDR.out b hb
                have h2 := (HO2.out.lt b hc).1
                omega
              · rw [List.map_append, List.map_cons, List.map_nil, lr]; exact H1.out
              · intro v hv
                rcases List.mem_append.1 hv with h | h
                · exact HSL.out v h
                · rw [List.mem_singleton.1 h]; exact sr
            case measure => simp [intOf]; omega
    · have hfin := hcy.ok (fun j hj => hall j (by rw [HN.out] at hj; omega))
      have HF := Lib.hid hfin; have HSL := Lib.hid hsl; have HO := Lib.hid ho; have HBR := Lib.hid hbr
      clear hfin hsl ho hbr hcy hall hd
      go_wp2_with fail
      go_ret
      exact ⟨_, _, rfl, HO.out.low (by omega), HSL.out, HF.out, HBR.out⟩
end Go.Proofs.Ytmcecmnbdcbehaa


/- coloring.Count at the trefoil's word with three colors, walked; the fact 'colored'. -/
import Derived.Test.YtckopilciekfbaaQColorDet0
import Derived.Test.YtckopilciekfbaaQColorDet1
import Derived.Test.YtckopilciekfbaaQColorDet2
import Derived.Test.YtckopilciekfbaaQColorDet3
import Derived.Test.YtckopilciekfbaaQColorDet4
import Derived.Test.YtckopilciekfbaaQColorDet5
import Derived.Test.YtckopilciekfbaaQColorDet6
import Derived.Test.YtckopilciekfbaaQColorDet7
import Derived.Test.YtckopilciekfbaaQColorDet10
import Derived.Test.YtckopilciekfbaaQColorDet11
import Derived.Test.YtckopilciekfbaaQColorDet16
import Derived.Test.YtckopilciekfbaaQColorDet17
import Derived.Test.YtckopilciekfbaaQColorDet19
import Derived.Test.YtckopilciekfbaaQColorDet25
import Derived.Test.YtckopilciekfbaaQColorDet26
import Derived.Test.YtckopilciekfbaaQColorDet29
import Derived.Test.YtckopilciekfbaaQColorDet30
import Derived.Test.YtckopilciekfbaaQColorDet31
import Derived.RangeFuncNested
import Derived.RangeFuncBound
import Derived.RangeFuncCalls
import Derived.RangeFuncLeaves
import Derived.RangeFuncBox
import Derived.Shelf.Abstract
import Derived.Shelf.RegionOpen
import Derived.OwnWalkIn
import Derived.TacticsInMore
import Derived.LoopNIn
import Derived.LoopIn
import Derived.Maps.AppendAt
namespace Go.Proofs.Ytckopilciekfbaa
open Go.RowKit Go.Sl

theorem setCell_size' (w : World) (p : Addr) (v : Value) : (w.setCell p v).heap.size = w.heap.size := by simp
theorem own_ne {w : World} {B B' : Nat} {e e' : TypeId} {v u : Value} {cs ds : List Value} (h : Go.Sl.Own w B e 1 v cs) (k : Go.Sl.Own w B' e' 1 u ds) (hc : 0 < cs.length) (hd : 0 < ds.length) (he : e ≠ e') : vblk v ≠ vblk u := by
  intro heq
  obtain ⟨cur, hg, -⟩ := Go.Sl.Own.getCell h hc
  obtain ⟨cur', hg', -⟩ := Go.Sl.Own.getCell k hd
  rw [heq, hg'] at hg
  injection hg with hg
  injection hg with h1 h2
  exact he h2.symm
theorem wpList_makeV {w : World} {ops : Array Oper} {rest : List Oper} {o : Oper} {a : Act} {Q : Exit → Act → World → Prop} (hgd : o.guard = none) (l c : Operand) (ho : o.op = Op.makeSlice 43 l c)
    (L C : Int) (n : Nat) (hl : a.eval l = .int .i64 L) (hc : a.eval c = .int .i64 C) (hL : L = (n : Int)) (hC : C = (n : Int)) (hm : n ≤ 1000000)
    (h : ∀ v' w', Go.Sl.Own w' w.heap.size 22 1 v' (List.replicate n (.slice none 0 0)) → w.grownBy w' none → vlen v' = n → w'.heap.size = w.heap.size + 1 → wpList Try.prog ops Q rest (a.put o.dst v') w') : wpList Try.prog ops Q (o :: rest) a w := by
  obtain ⟨i, hi, hz0, hz1, hz2⟩ := info_parts info_slice
  exact wpList_make_sl hgd l c _ ho 22 i (.slice none 0 0) 24 Try.underlying43 hi hz0 hz1 hz2 rfl L C n hl hc hL hC (by omega) (by simp only [maxLen]; omega) h

theorem zero_set {w : World} {B B' : Nat} {v u : Value} {j : Nat} (h : OwnI w B v [0, 0]) (k : OwnI w B' u [0, 0]) (hj : j < 2) : OwnI (w.setCell (vat u j) (.int .i64 0)) B v [0, 0] := by
  by_cases hb : vblk v = vblk u
  · have e : vat u j = vat v j := by
      obtain ⟨_, _, _, h0, -⟩ := Go.Sl.Own.getCell h (j := 0) (by simp)
      obtain ⟨_, _, _, k0, -⟩ := Go.Sl.Own.getCell k (j := 0) (by simp)
      unfold vat
      rw [hb, h0, k0]
    rw [e]
    have := h.set (k := j) (by simpa using hj) 0
    have e2 : [0, 0].set j (0 : Int) = [0, 0] := by
      have : j = 0 ∨ j = 1 := by omega
      rcases this with rfl | rfl <;> rfl
    rwa [e2] at this
  · exact h.setOther (fun k hk e => hb (by rw [vat_block] at e; rw [e]; exact (row_eq hk).2)) _

/-- A matrix of two rows of two zeros, all of the call's own. -/
structure ZM (w : World) (B0 B2 : Nat) (mv : Value) (vs : List Value) : Prop where
  own : Go.Sl.Own w B0 22 1 mv vs
  len : vs.length = 2
  rows : ∀ j, j < 2 → OwnI w B0 (nthv vs j) [0, 0]
  blk : ∀ j, j < 2 → vblk (nthv vs j) < B2
theorem ZM.below {w w' : World} {B0 B2 : Nat} {mv : Value} {vs : List Value} (h : ZM w B0 B2 mv vs) (hb : Below w.heap.size w w') : ZM w' B0 B2 mv vs :=
  ⟨h.own.below hb, h.len, fun j hj => (h.rows j hj).below hb, h.blk⟩
theorem ZM.store {w : World} {B0 B2 : Nat} {mv : Value} {vs : List Value} (h : ZM w B0 B2 mv vs) {j k : Nat} (hj : j < 2) (hk : k < 2) : ZM (w.setCell (vat (nthv vs j) k) (.int .i64 0)) B0 B2 mv vs :=
  ⟨h.own.setOther (fun b hb e => own_ne h.own (h.rows j hj) (by rw [h.len]; decide) (by simp) (by decide) (by rw [vat_block] at e; rw [e]; exact (row_eq hb).2)) _, h.len,
    fun i hi => zero_set (h.rows i hi) (h.rows j hj) hk, h.blk⟩
theorem ZM.storeC {w : World} {B0 B2 B : Nat} {mv c : Value} {vs : List Value} {ys : List Int} (h : ZM w B0 B2 mv vs) (hc : OwnI w B c ys) (hB : B2 ≤ B) {k : Nat} (hk : k < ys.length) (x : Int) : ZM (w.setCell (vat c k) (.int .i64 x)) B0 B2 mv vs := by
  have hge := hc.ge hk
  rw [vat_block] at hge
  refine ⟨h.own.setOther (fun b hb e => own_ne h.own hc (by rw [h.len]; decide) (by simp; omega) (by decide) (by rw [vat_block] at e; rw [e]; exact (row_eq hb).2)) _, h.len, fun i hi => (h.rows i hi).setOther (fun b hb e => ?_) _, h.blk⟩
  have h1 := h.blk i hi
  have h2 := (row_eq hb).2
  rw [vat_block] at e
  omega
theorem ZM.rows2 {w : World} {B0 B2 : Nat} {mv : Value} {vs : List Value} (h : ZM w B0 B2 mv vs) : Rows2 w mv [[0, 0], [0, 0]] := by
  refine ⟨vs, h.own.sl, by simp [h.len], fun i hi => ?_⟩
  have hi : i < 2 := by simpa using hi
  have := (h.rows i hi).ints
  have e : nthr [[0, 0], [0, 0]] i = [0, 0] := by
    have : i = 0 ∨ i = 1 := by omega
    rcases this with rfl | rfl <;> rfl
  rw [e]; exact this

theorem unit_prop (k : Nat) (hk : k < 2) : prop 3 (List.set [0, 0] k 1) [1, 1, 1] = List.set [0, 0] k 1 := by
  have : k = 0 ∨ k = 1 := by omega
  rcases this with rfl | rfl <;> decide
theorem unit_colors (k : Nat) (hk : k < 2) : Colors 3 (List.set [0, 0] k 1) := by
  have : k = 0 ∨ k = 1 := by omega
  rcases this with rfl | rfl <;> (intro x hx; simp at hx; omega)

set_option maxHeartbeats 2000000 in
set_option maxRecDepth 100000 in
theorem count3_calls (vw : Value) (w : World) (hw : Ints w vw [1, 1, 1]) :
    Calls Try.prog 29 #[.int .i64 2, vw, .int .i64 3] w fun e w' => e = .returned (.tuple #[.int .i64 9, .int .i64 0]) ∧ Below w.heap.size w w' := by
  have sw := hw.isSl
  have hbw : BWord ((2 : Nat) : Int) [1, 1, 1] := fun x hx => by simp at hx; subst hx; decide
  have hsol : solL (smithL [[0, 0], [0, 0]] 2 2) 3 2 = 9 := by decide +kernel
  have HW := Lib.hid hw; have HBW := Lib.hid hbw; have HSOL := Lib.hid hsol
  clear hw hbw hsol
  go_enter Try.func29, Try.ntmps29
  go_wp2_with fail
  refine (bcheck_calls 2 vw [1, 1, 1] _ HW.out (by decide) (by decide) HBW.out (by decide)).mono ?_
  rintro e u1 ⟨rfl, hb⟩
  have HW1 := Lib.hid (HW.out.below hb); have HB1 := Lib.hid hb
  clear hb
  go_wp2_with (at_make; refine wpList_makeV rfl _ _ rfl _ _ 2 rfl rfl rfl rfl (by decide) ?_; intro mv w1 ho1 hg1 hlo1 hsz; have sm := ho1.1; have hb1 := below_grown_none (Below.refl _ _) hg1; have HM1 := Lib.hid (ho1.low HB1.out.size); have HB2 := Lib.hid (Below.chain HB1.out hb1); have HW2 := Lib.hid (HW1.out.below hb1); clear ho1 hg1 hb1 hsz)
  go_loopw [31] (fun i wr => ∃ (k : Nat) (vs : List Value), k ≤ 2 ∧ i = .int .i64 k ∧ vs.length = 2 ∧ Go.Sl.Own wr w.heap.size 22 1 mv vs ∧ (∀ j, j < k → OwnI wr w.heap.size (nthv vs j) [0, 0]) ∧ Below w.heap.size w wr ∧ Ints wr vw [1, 1, 1]) (fun i _ => 2 - (intOf i).toNat)
  case atStart => exact ⟨0, _, by decide, rfl, by simp, HM1.out, fun j hj => by omega, HB2.out, HW2.out⟩
  case round =>
    obtain ⟨k, vs, hk, rfl, hvl, hm, hrows, hbr, hwr⟩ := hrel
    have HM := Lib.hid hm; have HR := Lib.hid hrows; have HBR := Lib.hid hbr; have HVL := Lib.hid hvl; have HWR := Lib.hid hwr
    clear hm hrows hbr hvl hwr
    by_cases hlt : k < 2
    · have hkv : k < vs.length := by rw [HVL.out]; exact hlt
      go_wp2_with (at_make; refine wpList_make rfl _ _ rfl _ _ 2 rfl rfl rfl rfl (by decide) ?_; intro r w2 ho1 hg1 hlo2 hsz; have sr := ho1.isSl; have hb1 := below_grown_none (Below.refl _ _) hg1; have hm2 := HM.out.below hb1; have c1 := Go.Sl.Own.cell hm2 hkv; have f1 := Go.Sl.Own.frozen hm2 hkv; have HM2 := Lib.hid hm2; have HO := Lib.hid (ho1.low HBR.out.size); have HBW1 := Lib.hid hb1; clear ho1 hg1 hb1 hm2 hsz)
      have hset := Go.Sl.Own.set HM2.out hkv r
      have hne : ∀ (v : Value) (ys : List Int), OwnI w2 w.heap.size v ys → 0 < ys.length → OwnI (w2.setCell (vat mv k) r) w.heap.size v ys := fun v ys ho hp =>
        ho.setOther (fun b hb e => own_ne HM2.out ho (by omega) (by simpa using hp) (by decide) (by rw [vat_block] at e; rw [e]; exact (row_eq hb).2.symm)) _
      have hb3 : Below w.heap.size w (w2.setCell (vat mv k) r) := (Below.chain HBR.out HBW1.out).setCell (Go.Sl.Own.ge HM2.out hkv) _
      go_roundw
      case rel =>
        refine ⟨k + 1, vs.set k r, by omega, by go_num, by rw [List.length_set]; exact HVL.out, hset, fun j hj => ?_, hb3, HW.out.below hb3⟩
        by_cases hjk : j = k
        · subst hjk
          have e : nthv (vs.set j r) j = r := by simp [nthv, hkv]
          rw [e]
          exact hne r _ HO.out (by decide)
        · have e : nthv (vs.set k r) j = nthv vs j := by simp [nthv, List.getElem?_set, Ne.symm hjk]
          rw [e]
          exact hne _ _ ((HR.out j (by omega)).below HBW1.out) (by decide)
      case measure => simp [intOf]; omega
    · obtain rfl : k = 2 := by omega
      obtain ⟨B2, hB2⟩ : ∃ B2, B2 = wr.heap.size := ⟨_, rfl⟩
      have hz : ZM wr w.heap.size B2 mv vs := ⟨HM.out, HVL.out, HR.out, fun j hj => by rw [hB2]; have := World.block_lt_of_cell? wr _ ((HR.out j hj).cell (k := 0) (by simp)); rwa [vat_block] at this⟩
      have HZ := Lib.hid hz
      clear hz hlt hk
      go_wp2_with fail
      go_loopw [41] (fun i wr => ∃ k : Nat, k ≤ 2 ∧ i = .int .i64 k ∧ ZM wr w.heap.size B2 mv vs ∧ Below w.heap.size w wr ∧ B2 ≤ wr.heap.size) (fun i _ => 2 - (intOf i).toNat)
      case atStart => exact ⟨0, by decide, rfl, HZ.out, HBR.out, by omega⟩
      case round =>
        obtain ⟨k, hk, rfl, hz, hbr, hs2⟩ := hrel
        have HZ2 := Lib.hid hz; have HBR2 := Lib.hid hbr
        clear hz hbr
        by_cases hlt : k < 2
        · obtain ⟨W, hW⟩ : ∃ W : World, W = wr := ⟨_, rfl⟩
          subst hW
          go_wp2_with (at_make; refine wpList_make rfl _ _ rfl _ _ 2 rfl rfl rfl rfl (by decide) ?_; intro c w2 ho1 hg1 hlo2 hsz; have sc := ho1.isSl; have hb1 := below_grown_none (Below.refl _ _) hg1; have f1 := ho1.frozen (k := k) hlt; have c1 := ho1.cell (k := k) hlt; have HO := Lib.hid ho1; have HBW1 := Lib.hid hb1; clear ho1 hg1 hb1 hsz)
          have hhk : k < ([0, 0] : List Int).length := hlt
          have ho : OwnI w2 W.heap.size c [0, 0] := HO.out
          have hz2 := (HZ2.out.below HBW1.out).storeC ho hs2 hhk 1
          have hc2 := ho.set hhk 1
          have hb3 : Below w.heap.size w (w2.setCell (vat c k) (.int .i64 1)) := (Below.chain HBR2.out HBW1.out).setCell (Nat.le_trans HBR2.out.size (ho.ge hhk)) _
          have hvw := HW.out.below hb3
          obtain ⟨cs, hcs⟩ : ∃ cs, List.set ([0, 0] : List Int) k 1 = cs := ⟨_, rfl⟩
          have hup := unit_prop k hlt
          have huc := unit_colors k hlt
          have hcl : cs.length = 2 := by rw [← hcs]; simp
          rw [hcs] at hc2 hup huc
          have hs3 : B2 ≤ (w2.setCell (vat c k) (.int .i64 1)).heap.size := by
            have h1 := HBW1.out.size
            rw [setCell_size']; omega
          have HC2 := Lib.hid hc2; have HZ3 := Lib.hid hz2; have HB3 := Lib.hid hb3; have HUP := Lib.hid hup; have HCL := Lib.hid hcl
          refine (propagate_calls 3 2 vw c [1, 1, 1] cs _ hvw hc2.ints (by decide) (by decide) hcl (by decide) HBW.out huc).mono ?_
          rw [HUP.out]
          rintro e w4 ⟨u, rfl, hu, hb4⟩
          have su := hu.isSl
          have lu := hu.len
          rw [hcl] at lu
          have hcb : B2 ≤ vblk c := Nat.le_trans hs2 (ho.ge hhk)
          have hub : B2 ≤ vblk u := Nat.le_trans hs3 (hu.ge (k := 0) (by omega))
          have HU := Lib.hid hu.ints; have HC4 := Lib.hid (hc2.ints.below hb4); have HZ4 := Lib.hid (hz2.below hb4); have HB4 := Lib.hid (Below.chain hb3 hb4)
          have hs4 : B2 ≤ w4.heap.size := Nat.le_trans hs3 hb4.size
          clear hc2 hz2 hb3 hup huc hcl hcs hu hb4 hvw ho f1 c1
          go_wp2_with fail
          go_loopw [56] (fun i wr => ∃ j : Nat, j ≤ 2 ∧ i = .int .i64 j ∧ ZM wr w.heap.size B2 mv vs ∧ Ints wr c cs ∧ Ints wr u cs ∧ Below w.heap.size w wr ∧ B2 ≤ wr.heap.size) (fun i _ => 2 - (intOf i).toNat)
          case atStart => exact ⟨0, by decide, rfl, HZ4.out, HC4.out, HU.out, HB4.out, hs4⟩
          case round =>
            obtain ⟨j, hj, rfl, hz, hc, hu, hbr, hs5⟩ := hrel
            have HZ5 := Lib.hid hz; have HC5 := Lib.hid hc; have HU5 := Lib.hid hu; have HB5 := Lib.hid hbr
            clear hz hc hu hbr
            by_cases hjl : j < 2
            · have d1 := HU5.out.cell (k := j) (by rw [HCL.out]; exact hjl)
              have d2 := HC5.out.cell (k := j) (by rw [HCL.out]; exact hjl)
              have lc := HC5.out.len
              rw [HCL.out] at lc
              obtain ⟨z, hz⟩ : ∃ z, nth cs j = z := ⟨_, rfl⟩
              rw [hz] at d1 d2
              have lm : vlen mv = 2 := by have := HZ5.out.own.2.1; rw [HZ5.out.len] at this; omega
              have d3 : wr.cell? (vat mv j) = some (nthv vs j) := by
                have hjv : j < vs.length := by rw [HZ5.out.len]; exact hjl
                rw [nthv_lt hjv]; exact Go.Sl.Own.cell HZ5.out.own hjv
              have hr := HZ5.out.rows j hjl
              have hst := HZ5.out.store hjl hlt
              have hrb := HZ5.out.blk j hjl
              obtain ⟨r, hre⟩ : ∃ r, nthv vs j = r := ⟨_, rfl⟩
              rw [hre] at d3 hr hst hrb
              have sr := hr.isSl
              have lr := hr.len
              have d4 := hr.cell (k := k) hlt
              have d5 := hr.frozen (k := k) hlt
              have hge := hr.ge (k := k) hlt
              have hc6 : Ints (wr.setCell (vat r k) (.int .i64 0)) c cs := HC5.out.setOther (by rw [vat_block]; omega) _
              have hu6 : Ints (wr.setCell (vat r k) (.int .i64 0)) u cs := HU5.out.setOther (by rw [vat_block]; omega) _
              have hb6 : Below w.heap.size w (wr.setCell (vat r k) (.int .i64 0)) := HB5.out.setCell hge _
              have hs6 : B2 ≤ (wr.setCell (vat r k) (.int .i64 0)).drew.heap.size := by show B2 ≤ (wr.setCell (vat r k) (.int .i64 0)).heap.size; rw [setCell_size']; exact hs5
              have HC6 := Lib.hid hc6; have HU6 := Lib.hid hu6; have HB6 := Lib.hid hb6; have HST := Lib.hid hst
              have hzz : z - z = 0 := by omega
              clear hc6 hu6 hb6 hst hr hre hz hge
              go_wp2_with fail
              go_region
              go_wp2_with fail
              go_roundw
              case rel => exact ⟨j + 1, by omega, by go_num, HST.out.below (Below.refl _ _).drew, HC6.out.below (Below.refl _ _).drew, HU6.out.below (Below.refl _ _).drew, HB6.out.drew, hs6⟩
              case measure => simp [intOf]; omega
            · go_wp2_with fail
              refine ⟨⟨_, _, _, _, _, _, _, _, _, _, _, _, _, _, _, _, _, _, _, _, _, _, _, _, _, _, _, _, _, _, _, _, _, _, _, _, _, _, ⟨k + 1, by omega, ?_, HZ5.out, HB5.out, hs5⟩, rfl⟩, ?_⟩
              · go_num
              · show 2 - (intOf (.int .i64 ((k : Int) + 1))).toNat < 2 - (intOf (.int .i64 (k : Int))).toNat
                simp [intOf]; omega
        · go_wp2_with fail
          refine (solutions_calls mv [[0, 0], [0, 0]] 2 2 3 _ HZ2.out.rows2 ⟨rfl, by decide, by decide, by decide, by decide⟩ (by decide) (by decide) (by decide) (by decide)).mono ?_
          rw [HSOL.out]
          rintro e w5 ⟨rfl, hb5⟩
          have HB5 := Lib.hid (Below.chain HBR2.out hb5); clear hb5
          go_wp2_with fail
          go_ret2
          exact ⟨rfl, HB5.out⟩

set_option maxRecDepth 100000 in
theorem colored_calls (w : World) :
    Calls Try.prog 35 #[] w fun e w' => e = .returned (.bool true) ∧ Below w.heap.size w w' := by
  go_enter Try.func35, Try.ntmps35
  go_wp2_with fail
  refine (count3_calls _ _ (ints_lit [1, 1, 1] rfl rfl rfl (by decide))).mono ?_
  rintro e u1 ⟨rfl, hb1⟩
  have B1 := Lib.hid (Below.chain ((Below.refl _ _).alloc (Nat.le_refl _) _) hb1)
  clear hb1
  go_wp2_with fail
  refine (cpropagate_calls 2 3 _ _ [1] [0, 1] _ ((ints_lit [1] rfl rfl rfl (by decide)).alloc _) (ints_lit [0, 1] (by simp) rfl rfl (by decide)) (by decide) (by decide) (by decide) (by decide) rfl (fun x hx => by simp at hx; subst hx; decide) (fun x hx => by simp at hx; omega) (by decide)).mono ?_
  rintro e u2 ⟨u, rfl, hu, hb2⟩
  have hp : prop 3 [0, 1] [1] = [2, 0] := by decide
  rw [hp] at hu
  have su := hu.isSl
  have HU := Lib.hid hu.ints
  have B2 := Lib.hid (Below.chain B1.out (Below.chain (((Below.refl _ _).alloc (Nat.le_refl _) _).alloc (by simp) _) hb2))
  clear hu hb2 hp
  go_wp2_with fail
  refine (equal_yes _ _ [2, 0] [2, 0] _ (HU.out.alloc _) (ints_lit [2, 0] rfl rfl rfl (by decide)) rfl).mono ?_
  rintro e u3 ⟨rfl, hb3⟩
  have B3 := Lib.hid (Below.chain B2.out (Below.chain ((Below.refl _ _).alloc (Nat.le_refl _) _) hb3))
  clear hb3
  go_wp2_with fail
  go_ret
  exact ⟨rfl, B3.out⟩

end Go.Proofs.Ytckopilciekfbaa


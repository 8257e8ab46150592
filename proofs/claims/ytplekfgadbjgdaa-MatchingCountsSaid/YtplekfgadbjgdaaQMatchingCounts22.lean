/- temperleylieb: graph.walk and graph.loops, walked. -/
import Derived.Test.YtplekfgadbjgdaaQMatchingCounts0
import Derived.Test.YtplekfgadbjgdaaQMatchingCounts1
import Derived.Test.YtplekfgadbjgdaaQMatchingCounts10
import Derived.Test.YtplekfgadbjgdaaQMatchingCounts11
import Derived.Test.YtplekfgadbjgdaaQMatchingCounts12
import Derived.Test.YtplekfgadbjgdaaQMatchingCounts13
import Derived.Test.YtplekfgadbjgdaaQMatchingCounts14
import Derived.Test.YtplekfgadbjgdaaQMatchingCounts15
import Derived.Test.YtplekfgadbjgdaaQMatchingCounts16
import Derived.Test.YtplekfgadbjgdaaQMatchingCounts17
import Derived.Test.YtplekfgadbjgdaaQMatchingCounts18
import Derived.Test.YtplekfgadbjgdaaQMatchingCounts19
import Derived.Test.YtplekfgadbjgdaaQMatchingCounts20
import Derived.Test.YtplekfgadbjgdaaQMatchingCounts21
import Derived.StillTailTactics
import Derived.Deep.RegionLaw
import Derived.RangeFuncNested
import Derived.RangeFuncBound
import Derived.RangeFuncCalls
import Derived.RangeFuncLeaves
import Derived.RangeFuncBox
import Derived.Shelf.Abstract
import Derived.Shelf.RegionOpen
import Derived.OwnWalkIn
import Derived.TacticsInMore
import Derived.LoopNIn
import Derived.LoopIn
import Derived.Maps.AppendAt
namespace Go.Proofs.Ytplekfgadbjgdaa
open Go.RowKit Go.Sl
open Go.TL (lnAt addLn tlWalk tlLoops find)

theorem mu_ex (P : Nat → Prop) : ∃ m, (∀ k, P k → m ≤ k) ∧ ((∃ k, P k) → P m) := by
  by_cases h : ∃ k, P k
  · obtain ⟨k, hk⟩ := h
    have : ∃ m, P m ∧ ∀ j, j < m → ¬ P j := by
      induction k using Nat.strongRecOn with
      | _ k ih =>
        by_cases hj : ∃ j, j < k ∧ P j
        · obtain ⟨j, h1, h2⟩ := hj
          exact ih j h1 h2
        · exact ⟨k, hk, fun j h1 h2 => hj ⟨j, h1, h2⟩⟩
    obtain ⟨m, h1, h2⟩ := this
    exact ⟨m, fun j hj => by
      rcases Nat.lt_or_ge j m with q | q
      · exact absurd hj (h2 j q)
      · exact q, fun _ => h1⟩
  · exact ⟨0, fun k _ => Nat.zero_le _, fun q => absurd q h⟩
noncomputable def mu (P : Nat → Prop) : Nat := Classical.choose (mu_ex P)
theorem mu_le {P : Nat → Prop} {k : Nat} (h : P k) : mu P ≤ k := (Classical.choose_spec (mu_ex P)).1 k h
theorem mu_spec {P : Nat → Prop} (h : ∃ k, P k) : P (mu P) := (Classical.choose_spec (mu_ex P)).2 h

theorem find_bound {p : Nat} : ∀ (l : List Nat) (i j : Nat), find p l i = some j → i ≤ j ∧ j < i + l.length ∧ l[j - i]? = some p := by
  intro l
  induction l with
  | nil => intro i j h; simp [find] at h
  | cons x l ih =>
    intro i j h
    rw [find] at h
    split at h
    · rename_i e
      obtain rfl := Option.some.inj h
      exact ⟨Nat.le_refl _, by simp, by simp [e]⟩
    · obtain ⟨h1, h2, h3⟩ := ih (i + 1) j h
      refine ⟨by omega, by simp; omega, ?_⟩
      rw [show j - i = (j - (i + 1)) + 1 by omega]; simpa using h3
theorem find_first {p : Nat} : ∀ (l : List Nat) (i j : Nat), find p l i = some j → ∀ k, i ≤ k → k < j → l[k - i]? ≠ some p := by
  intro l
  induction l with
  | nil => intro i j h; simp [find] at h
  | cons x l ih =>
    intro i j h k hk hkj
    rw [find] at h
    split at h
    · obtain rfl := Option.some.inj h; omega
    · rename_i e
      by_cases q : k = i
      · subst q; simpa using e
      · have := ih (i + 1) j h k (by omega) hkj
        rw [show k - i = (k - (i + 1)) + 1 by omega]; simpa using this
theorem tlWalk_nil {f : Nat} {L : List (List Nat)} {p : Nat} (h : lnAt L p = []) : tlWalk f L p = some (p, L) := by
  cases f <;> simp [tlWalk, h]
theorem tlWalk_cons {f : Nat} {L : List (List Nat)} {p q : Nat} {rest : List Nat} {R : Nat × List (List Nat)} (h : lnAt L p = q :: rest) (hw : tlWalk f L p = some R) :
    ∃ f' i, f = f' + 1 ∧ q < L.length ∧ find p (lnAt (L.set p rest) q) 0 = some i ∧ tlWalk f' ((L.set p rest).set q ((lnAt (L.set p rest) q).eraseIdx i)) q = some R := by
  cases f with
  | zero => simp [tlWalk, h] at hw
  | succ f =>
    rw [tlWalk, h] at hw
    simp only at hw
    split at hw
    · rename_i hq
      cases hf : find p (lnAt (L.set p rest) q) 0 with
      | none => rw [hf] at hw; simp at hw
      | some i => rw [hf] at hw; exact ⟨f, i, rfl, hq, rfl, hw⟩
    · simp at hw

theorem idx_find {l : List Nat} {p i : Nat} (h : find p l 0 = some i) : idxOf (iz l) (p : Int) = (i : Nat) ∧ i < l.length := by
  obtain ⟨_, h2, h3⟩ := find_bound l 0 i h
  have hi : i < l.length := by omega
  refine ⟨idxOf_hit (iz l) p i (by rw [iz_length]; exact hi) ?_ fun j hj => ?_, hi⟩
  · rw [nth_iz hi]
    rw [Nat.sub_zero, List.getElem?_eq_getElem hi] at h3
    rw [Option.some.inj h3]
  · have h4 := find_first l 0 i h j (Nat.zero_le _) hj
    rw [Nat.sub_zero, List.getElem?_eq_getElem (by omega)] at h4
    rw [nth_iz (show j < l.length by omega)]
    intro e
    exact h4 (by rw [Int.ofNat_inj.1 e])
/-- The graph's blocks are below C. -/
def LowG (C g : Nat) (mv : Value) (vs : List Value) : Prop := g < C ∧ (∀ k, Go.Sl.row mv = some k → k < C) ∧ ∀ i, i < vs.length → ∀ k, Go.Sl.row (nthv vs i) = some k → k < C
theorem LowG.put {C g : Nat} {mv r : Value} {vs : List Value} (h : LowG C g mv vs) {i : Nat} (hi : i < vs.length) (hr : ∀ k, Go.Sl.row r = some k → Go.Sl.row (nthv vs i) = some k) : LowG C g mv (vs.set i r) := by
  refine ⟨h.1, h.2.1, fun j hj k hk => ?_⟩
  rw [List.length_set] at hj
  rw [nthv_setN hj] at hk
  split at hk
  · exact h.2.2 i hi k (hr k hk)
  · exact h.2.2 j hj k hk
/-- Blocks from C on are as they were. -/
def KeepC (C : Nat) (w w' : World) : Prop := w.heap.size ≤ w'.heap.size ∧ ∀ k, C ≤ k → k < w.heap.size → w'.heap[k]? = w.heap[k]?
theorem KeepC.refl (C : Nat) (w : World) : KeepC C w w := ⟨Nat.le_refl _, fun _ _ _ => rfl⟩
theorem KeepC.trans {C : Nat} {a b c : World} (h : KeepC C a b) (k : KeepC C b c) : KeepC C a c := ⟨Nat.le_trans h.1 k.1, fun i hi hj => (k.2 i hi (Nat.lt_of_lt_of_le hj h.1)).trans (h.2 i hi hj)⟩
theorem KeepC.drew {C : Nat} {a b : World} (h : KeepC C a b) : KeepC C a b.drew := h
theorem KeepC.setCell {C : Nat} {a b : World} (h : KeepC C a b) {p : Addr} (hp : p.block < C) (u : Value) : KeepC C a (b.setCell p u) :=
  ⟨by simpa using h.1, fun k hk hj => (Below.heap_setCell b p u k (by omega)).trans (h.2 k hk hj)⟩
theorem KeepC.grown {C : Nat} {a b c : World} (h : KeepC C a b) {r : Option Nat} (hg : b.grownBy c r) (hr : ∀ k, r = some k → k < C) : KeepC C a c :=
  h.trans ⟨hg.size, fun k hk hj => hg.block k hj fun e => by have := hr k e.symm; omega⟩
/-- The state within walk: m steps are enough. -/
def WS (B C g N : Nat) (mv : Value) (R : Nat × List (List Nat)) (w : World) (pv : Value) (wr : World) (m : Nat) : Prop :=
  ∃ (p : Nat) (vs : List Value) (L : List (List Nat)), pv = .int .i64 p ∧ p < N ∧ L.length = N ∧ tlWalk m L p = some R ∧ GW wr B g mv vs L ∧ Below B w wr ∧ (∀ i, (lnAt L i).length ≤ 2) ∧ LowG C g mv vs ∧ KeepC C w wr

set_option maxRecDepth 100000 in
set_option maxHeartbeats 4000000 in
theorem walk_calls (p0 f B C g N : Nat) (mv : Value) (vs0 : List Value) (L0 : List (List Nat)) (R : Nat × List (List Nat)) (w : World) (h : GW w B g mv vs0 L0) (hp : p0 < N) (hN : L0.length = N) (_hN9 : N ≤ 100) (hw : tlWalk f L0 p0 = some R) (hL : ∀ i, (lnAt L0 i).length ≤ 2) (hlow : LowG C g mv vs0) :
    Calls Try.prog 140 #[.pointer (some ⟨g, 0, none⟩), .int .i64 p0] w fun e w' => e = .returned (.int .i64 (R.1 : Nat)) ∧ (∃ vs', GW w' B g mv vs' R.2 ∧ LowG C g mv vs') ∧ Below B w w' ∧ KeepC C w w' := by
  have smv := h.own.1
  have h0 : WS B C g N mv R w (.int .i64 p0) w f := ⟨p0, vs0, L0, rfl, hp, hN, hw, h, Below.refl _ _, hL, hlow, KeepC.refl _ _⟩
  have H0 := Lib.hid h0
  clear h hp hN hw hL h0 hlow
  go_enter Try.func140, Try.ntmps140
  go_wp2_with fail
  go_loopw [1] (fun pv wr => ∃ m, WS B C g N mv R w pv wr m) (fun pv wr => mu (WS B C g N mv R w pv wr))
  case atStart => exact ⟨f, H0.out⟩
  case round =>
    rename World => W
    have hsp := mu_spec hrel
    obtain ⟨m, hm⟩ : ∃ m, mu (WS B C g N mv R w u1 W) = m := ⟨_, rfl⟩
    rw [hm] at hsp
    obtain ⟨p, vs, L, rfl, hpN, hLN, hwk, hg, hb, hL, hlo, hkp⟩ := hsp
    clear hrel
    have hpL : p < L.length := by omega
    have c0 := hg.c0
    have lmv := hg.vlen
    have cp := hg.cell hpL
    have fp := hg.frozen hpL
    have rp := hg.row p hpL
    obtain ⟨r, hr⟩ : ∃ r, nthv vs p = r := ⟨_, rfl⟩
    rw [hr] at cp rp
    have sr := rp.isSl
    have lr := rp.len
    rw [iz_length] at lr
    cases hrow : lnAt L p with
    | nil =>
      rw [tlWalk_nil hrow] at hwk
      have hR := Option.some.inj hwk
      rw [hrow] at lr
      have lr : vlen r = 0 := lr
      have HG := Lib.hid (show ∃ vs', GW W B g mv vs' R.2 ∧ LowG C g mv vs' from ⟨vs, by rw [← hR]; exact hg, hlo⟩)
      have HR1 := Lib.hid (show (R.1 : Nat) = p by rw [← hR])
      have HBB := Lib.hid hb; have HKP := Lib.hid hkp
      clear hg hb hL hwk hR rp hrow hm hlo hkp
      go_wp2_with fail
      go_ret
      exact ⟨by rw [HR1.out]; rfl, HG.out, HBB.out, HKP.out⟩
    | cons q rest =>
      obtain ⟨f', i, hmf, hqL, hfind, hw2⟩ := tlWalk_cons hrow hwk
      rw [hrow] at lr
      obtain ⟨ln, hln⟩ : ∃ ln, rest.length = ln := ⟨_, rfl⟩
      replace lr : vlen r = ln + 1 := by rw [← hln]; exact lr
      have hcq := rp.cell (k := 0) (by rw [iz_length, hrow]; simp)
      have hnq : nth (iz (lnAt L p)) 0 = (q : Int) := by rw [hrow]; rfl
      rw [hnq] at hcq
      have hcap := rp.cap
      rw [iz_length, hrow] at hcap
      replace hcap : ln + 1 ≤ vcap r := by rw [← hln]; exact hcap
      have hone : 1 ≤ ln + 1 := by omega
      have hle1 : ((1 : Int) ≤ (ln : Int) + 1) := by omega
      have rtail : OwnGI W B (vcut r 1 (vlen r) (vcap r) 1) (iz rest) := by
        have h1 : OwnG W B 3 r ((Value.int .i64 (q : Int)) :: (iz rest).map (Value.int .i64)) := by have := rp; unfold OwnGI at this; rw [hrow] at this; exact this
        exact OwnG.tail h1
      have gp := hg.put hpL (r := vcut r 1 (vlen r) (vcap r) 1) (ys := rest) (W' := W) ⟨rfl, rfl, rfl, Nat.le_refl _, fun _ _ _ => rfl⟩ rtail (fun k hk => .inl (by rw [hr]; exact row_tail sr k hk))
      have hb1 : Below B w (W.setCell (vat mv p) (vcut r 1 (vlen r) (vcap r) 1)) := hb.setCell (hg.own.ge (by rw [hg.len]; exact hpL)) _
      have str := rtail.isSl
      have hmvC : vblk mv < C := hlo.2.1 _ (row_some (by have := hg.own.1.le; omega))
      have hlo1 := hlo.put (i := p) (r := vcut r 1 (vlen r) (vcap r) 1) (by rw [hg.len]; exact hpL) (fun k hk => by rw [hr]; exact row_tail sr k hk)
      have hkp1 := hkp.setCell (p := vat mv p) (by rw [vat_block]; exact hmvC) (vcut r 1 (vlen r) (vcap r) 1)
      have HM := Lib.hid hm; have HLO := Lib.hid hlo1; have HKP := Lib.hid hkp1; have HGP := Lib.hid gp; have HB1 := Lib.hid hb1; have HFI := Lib.hid hfind; have HW2 := Lib.hid hw2; have HLL := Lib.hid hL; have HRW := Lib.hid hrow; have HLN := Lib.hid hln
      rw [lr] at HGP HB1 str HLO HKP
      clear hlo hkp hlo1 hkp1 hm gp hb1 hfind hw2 hL hrow hwk hg hb rp rtail hnq hr hln
      go_wp2_with fail
      have gv : GW (W.setCell (vat mv p) (vcut r 1 (ln + 1) (vcap r) 1)) B g mv (vs.set p (vcut r 1 (ln + 1) (vcap r) 1)) (L.set p rest) := HGP.out
      have bv : Below B w (W.setCell (vat mv p) (vcut r 1 (ln + 1) (vcap r) 1)) := HB1.out
      obtain ⟨vs1, hvs1⟩ : ∃ vs1, vs.set p (vcut r 1 (ln + 1) (vcap r) 1) = vs1 := ⟨_, rfl⟩
      obtain ⟨L1, hL1⟩ : ∃ L1, L.set p rest = L1 := ⟨_, rfl⟩
      rw [hvs1, hL1] at gv
      have hlo : LowG C g mv vs1 := by rw [← hvs1]; exact HLO.out
      have HLO1 := Lib.hid hlo
      clear hlo HLO
      rw [hL1] at HFI HW2
      have hq1 : q < L1.length := by rw [← hL1, List.length_set]; exact hqL
      have hL1N : L1.length = N := by rw [← hL1, List.length_set]; exact hLN
      have hqN : q < N := by omega
      have hL12 : ∀ j, (lnAt L1 j).length ≤ 2 := fun j => by
        rcases Nat.lt_or_ge j L.length with q1 | q1
        · rw [← hL1, lnAt_set q1]
          split
          · have := HLL.out p; rw [HRW.out] at this; simp at this; omega
          · exact HLL.out j
        · have : lnAt L1 j = [] := by unfold lnAt; rw [List.getD_eq_getElem?_getD, List.getElem?_eq_none (by omega)]; rfl
          rw [this]; simp
      obtain ⟨hidx, hil⟩ := idx_find HFI.out
      have hlq2 := hL12 q
      have ca := gv.c0
      have la := gv.vlen
      have cq := gv.cell hq1
      have rq1 := (gv.row q hq1).ints
      obtain ⟨lq, hlq⟩ : ∃ lq, lnAt L1 q = lq := ⟨_, rfl⟩
      rw [hlq] at hidx hil hlq2 rq1 HW2
      obtain ⟨rq, hrq⟩ : ∃ rq, nthv vs1 q = rq := ⟨_, rfl⟩
      rw [hrq] at cq rq1
      have srq := rq1.isSl
      have GV := Lib.hid gv; have BV := Lib.hid bv; have RQ1 := Lib.hid rq1; have HIDX := Lib.hid hidx; have HRQ := Lib.hid hrq
      have HL12 := Lib.hid hL12; have HLQ := Lib.hid hlq
      clear gv bv rq1 hidx hrq hvs1 hL1 hL12 hlq HGP HB1
      go_still_tail 14, (by kernel_rfl)
      clear lr hcap hone hle1 hcq
      go_wp2_with fail
      refine (index_calls rq (iz lq) (p : Int) _ (RQ1.out.below (Below.refl _ _).drew)).mono ?_
      rintro e V ⟨rfl, hV⟩
      rw [HIDX.out]
      have gv : GW V B g mv vs1 L1 := by rw [← hV]; exact GV.out.below (Below.refl _ _).drew
      have bv : Below B w V := by rw [← hV]; exact BV.out.drew
      have HKP1 := Lib.hid (show KeepC C w V by rw [← hV]; exact HKP.out.drew)
      clear HKP
      have gd := gv.below (Below.refl V.heap.size V).drew
      have cb := gd.c0
      have cq2 := gv.cell hq1
      have cqd := gd.cell hq1
      have rq0 := gd.row q hq1
      rw [HLQ.out] at rq0
      rw [HRQ.out] at cq2 cqd rq0
      have ca2 := gv.c0
      have HGD := Lib.hid gd; have BV2 := Lib.hid bv; have RQ := Lib.hid rq0
      clear hV gv gd bv rq0 ca cq c0 cp fp GV BV RQ1 str
      have hwi : IntKind.i64.wrap ((i : Int) + 1) = (i : Int) + 1 := IntWalk.i64_in _ ⟨by omega, by omega⟩
      go_wp2_with fail
      refine wp_region_held_drew (S := fun W => W.cell? ⟨g, 0, none⟩ = some mv) (by kernel_rfl) (cb) (fun hHeld => ?_)
      refine' wpAnyH_take (i := 0) (oi := ?oiz1) (v := ?vz1) ?haz1 (by kernel_rfl) ?hfz1 ?hrz1 ?hQz1 (Or.inl ⟨?hwz1, ?hyz1⟩) (by assumption) ?restz1
      case haz1 => (simp only [List.getElem?_toArray, List.getElem?_cons_zero]; exact rfl)
      case hQz1 => exact fun _ _ _ h => h
      case hfz1 => kernel_rfl
      case hrz1 => kernel_rfl
      case hwz1 => rfl
      case hyz1 => (intro w hSw; (try dsimp only at hSw); have e0 := hSw; go_simp; (try with_reducible rfl))
      try simp only [Act.put, List.setIfInBounds_toArray, List.set_cons_zero, List.set_cons_succ]
      refine' wpAnyH_take (i := 1) (oi := ?oiz2) (v := ?vz2) ?haz2 (by kernel_rfl) ?hfz2 ?hrz2 ?hQz2 (Or.inl ⟨?hwz2, ?hyz2⟩) (by assumption) ?restz2
      case haz2 => (simp only [List.getElem?_toArray, List.getElem?_cons_succ, List.getElem?_cons_zero]; exact rfl)
      case hQz2 => exact fun _ _ _ h => h
      case hfz2 => kernel_rfl
      case hrz2 => kernel_rfl
      case hwz2 => rfl
      case hyz2 => (intro w hSw; (try dsimp only at hSw); have e0 := hSw; go_simp; (try with_reducible rfl))
      try simp only [Act.put, List.setIfInBounds_toArray, List.set_cons_zero, List.set_cons_succ]
      refine' wpAnyH_take (i := 2) (oi := ?oiz3) (v := ?vz3) ?haz3 (by kernel_rfl) ?hfz3 ?hrz3 ?hQz3 (Or.inl ⟨?hwz3, ?hyz3⟩) (by assumption) ?restz3
      case haz3 => (simp only [List.getElem?_toArray, List.getElem?_cons_succ, List.getElem?_cons_zero]; exact rfl)
      case hQz3 => exact fun _ _ _ h => h
      case hfz3 => kernel_rfl
      case hrz3 => kernel_rfl
      case hwz3 => rfl
      case hyz3 => (intro w hSw; (try dsimp only at hSw); have e0 := hSw; go_simp; (try with_reducible rfl))
      try simp only [Act.put, List.setIfInBounds_toArray, List.set_cons_zero, List.set_cons_succ]
      refine' wpAnyH_take (i := 3) (oi := ?oiz4) (v := ?vz4) ?haz4 (by kernel_rfl) ?hfz4 ?hrz4 ?hQz4 (Or.inl ⟨?hwz4, ?hyz4⟩) (by assumption) ?restz4
      case haz4 => (simp only [List.getElem?_toArray, List.getElem?_cons_succ, List.getElem?_cons_zero]; exact rfl)
      case hQz4 => exact fun _ _ _ h => h
      case hfz4 => kernel_rfl
      case hrz4 => kernel_rfl
      case hwz4 => rfl
      case hyz4 => (intro w hSw; (try dsimp only at hSw); have e0 := hSw; go_simp; (try with_reducible rfl))
      try simp only [Act.put, List.setIfInBounds_toArray, List.set_cons_zero, List.set_cons_succ]
      refine' wpAnyH_take (i := 4) (oi := ?oiz5) (v := ?vz5) ?haz5 (by kernel_rfl) ?hfz5 ?hrz5 ?hQz5 (Or.inl ⟨?hwz5, ?hyz5⟩) (by assumption) ?restz5
      case haz5 => (simp only [List.getElem?_toArray, List.getElem?_cons_succ, List.getElem?_cons_zero]; exact rfl)
      case hQz5 => exact fun _ _ _ h => h
      case hfz5 => kernel_rfl
      case hrz5 => kernel_rfl
      case hwz5 => rfl
      case hyz5 => (intro w hSw; (try dsimp only at hSw); have e0 := hSw; go_simp; (try with_reducible rfl))
      try simp only [Act.put, List.setIfInBounds_toArray, List.set_cons_zero, List.set_cons_succ]
      refine' wpAnyH_take (i := 5) (oi := ?oiz6) (v := ?vz6) ?haz6 (by kernel_rfl) ?hfz6 ?hrz6 ?hQz6 (Or.inl ⟨?hwz6, ?hyz6⟩) (by assumption) ?restz6
      case haz6 => (simp only [List.getElem?_toArray, List.getElem?_cons_succ, List.getElem?_cons_zero]; exact rfl)
      case hQz6 => exact fun _ _ _ h => h
      case hfz6 => kernel_rfl
      case hrz6 => kernel_rfl
      case hwz6 => rfl
      case hyz6 => (intro w hSw; (try dsimp only at hSw); have e0 := hSw; go_simp; (try with_reducible rfl))
      try simp only [Act.put, List.setIfInBounds_toArray, List.set_cons_zero, List.set_cons_succ]
      refine' wpAnyH_take (i := 6) (oi := ?oiz7) (v := ?vz7) ?haz7 (by kernel_rfl) ?hfz7 ?hrz7 ?hQz7 (Or.inl ⟨?hwz7, ?hyz7⟩) (by assumption) ?restz7
      case haz7 => (simp only [List.getElem?_toArray, List.getElem?_cons_succ, List.getElem?_cons_zero]; exact rfl)
      case hQz7 => exact fun _ _ _ h => h
      case hfz7 => kernel_rfl
      case hrz7 => kernel_rfl
      case hwz7 => rfl
      case hyz7 => (intro w hSw; (try dsimp only at hSw); have e0 := hSw; go_simp; (try with_reducible rfl))
      try simp only [Act.put, List.setIfInBounds_toArray, List.set_cons_zero, List.set_cons_succ]
      refine' wpAnyH_take (i := 7) (oi := ?oiz8) (v := ?vz8) ?haz8 (by kernel_rfl) ?hfz8 ?hrz8 ?hQz8 (Or.inl ⟨?hwz8, ?hyz8⟩) (by assumption) ?restz8
      case haz8 => (simp only [List.getElem?_toArray, List.getElem?_cons_succ, List.getElem?_cons_zero]; exact rfl)
      case hQz8 => exact fun _ _ _ h => h
      case hfz8 => kernel_rfl
      case hrz8 => kernel_rfl
      case hwz8 => rfl
      case hyz8 => (intro w hSw; (try dsimp only at hSw); have e0 := hSw; go_simp; (try with_reducible rfl))
      try simp only [Act.put, List.setIfInBounds_toArray, List.set_cons_zero, List.set_cons_succ]
      refine' wpAnyH_take (i := 8) (oi := ?oiz9) (v := ?vz9) ?haz9 (by kernel_rfl) ?hfz9 ?hrz9 ?hQz9 (Or.inl ⟨?hwz9, ?hyz9⟩) (by assumption) ?restz9
      case haz9 => (simp only [List.getElem?_toArray, List.getElem?_cons_succ, List.getElem?_cons_zero]; exact rfl)
      case hQz9 => exact fun _ _ _ h => h
      case hfz9 => kernel_rfl
      case hrz9 => kernel_rfl
      case hwz9 => rfl
      case hyz9 => (intro w hSw; (try dsimp only at hSw); have e0 := hSw; go_simp; (try with_reducible rfl))
      try simp only [Act.put, List.setIfInBounds_toArray, List.set_cons_zero, List.set_cons_succ]
      refine' wpAnyH_take (i := 9) (oi := ?oiz10) (v := ?vz10) ?haz10 (by kernel_rfl) ?hfz10 ?hrz10 ?hQz10 (Or.inl ⟨?hwz10, ?hyz10⟩) (by assumption) ?restz10
      case haz10 => (simp only [List.getElem?_toArray, List.getElem?_cons_succ, List.getElem?_cons_zero]; exact rfl)
      case hQz10 => exact fun _ _ _ h => h
      case hfz10 => kernel_rfl
      case hrz10 => kernel_rfl
      case hwz10 => rfl
      case hyz10 => (intro w hSw; (try dsimp only at hSw); have e0 := hSw; go_simp; (try with_reducible rfl))
      try simp only [Act.put, List.setIfInBounds_toArray, List.set_cons_zero, List.set_cons_succ]
      refine' wpAnyH_take (i := 10) (oi := ?oiz11) (v := ?vz11) ?haz11 (by kernel_rfl) ?hfz11 ?hrz11 ?hQz11 (Or.inl ⟨?hwz11, ?hyz11⟩) (by assumption) ?restz11
      case haz11 => (simp only [List.getElem?_toArray, List.getElem?_cons_succ, List.getElem?_cons_zero]; exact rfl)
      case hQz11 => exact fun _ _ _ h => h
      case hfz11 => kernel_rfl
      case hrz11 => kernel_rfl
      case hwz11 => rfl
      case hyz11 => (intro w hSw; (try dsimp only at hSw); have e0 := hSw; go_simp; (try with_reducible rfl))
      try simp only [Act.put, List.setIfInBounds_toArray, List.set_cons_zero, List.set_cons_succ]
      refine' wpAnyH_take (i := 12) (oi := ?oiz12) (v := ?vz12) ?haz12 (by kernel_rfl) ?hfz12 ?hrz12 ?hQz12 (Or.inl ⟨?hwz12, ?hyz12⟩) (by assumption) ?restz12
      case haz12 => (simp only [List.getElem?_toArray, List.getElem?_cons_succ, List.getElem?_cons_zero]; exact rfl)
      case hQz12 => exact fun _ _ _ h => h
      case hfz12 => kernel_rfl
      case hrz12 => kernel_rfl
      case hwz12 => rfl
      case hyz12 => (intro w hSw; (try dsimp only at hSw); have e0 := hSw; go_simp; (try with_reducible rfl))
      try simp only [Act.put, List.setIfInBounds_toArray, List.set_cons_zero, List.set_cons_succ]
      refine' wpAnyH_take (i := 13) (oi := ?oiz13) (v := ?vz13) ?haz13 (by kernel_rfl) ?hfz13 ?hrz13 ?hQz13 (Or.inl ⟨?hwz13, ?hyz13⟩) (by assumption) ?restz13
      case haz13 => (simp only [List.getElem?_toArray, List.getElem?_cons_succ, List.getElem?_cons_zero]; exact rfl)
      case hQz13 => exact fun _ _ _ h => h
      case hfz13 => kernel_rfl
      case hrz13 => kernel_rfl
      case hwz13 => rfl
      case hyz13 => (intro w hSw; (try dsimp only at hSw); have e0 := hSw; go_simp; (try with_reducible rfl))
      try simp only [Act.put, List.setIfInBounds_toArray, List.set_cons_zero, List.set_cons_succ]
      refine' wpAnyH_take (i := 14) (oi := ?oiz14) (v := ?vz14) ?haz14 (by kernel_rfl) ?hfz14 ?hrz14 ?hQz14 (Or.inl ⟨?hwz14, ?hyz14⟩) (by assumption) ?restz14
      case haz14 => (simp only [List.getElem?_toArray, List.getElem?_cons_succ, List.getElem?_cons_zero]; exact rfl)
      case hQz14 => exact fun _ _ _ h => h
      case hfz14 => kernel_rfl
      case hrz14 => kernel_rfl
      case hwz14 => rfl
      case hyz14 => (intro w hSw; (try dsimp only at hSw); have e0 := hSw; go_simp; (try with_reducible rfl))
      try simp only [Act.put, List.setIfInBounds_toArray, List.set_cons_zero, List.set_cons_succ]
      refine wpAnyH_ready (rs := [11]) (by kernel_rfl) (by simp) ?_
      refine' AllReadyH.cons (o := ?oiz15) ?haz15 (fun K hK => ?stepz15) AllReadyH.nil
      case haz15 => (simp only [List.getElem?_toArray, List.getElem?_cons_succ, List.getElem?_cons_zero]; exact rfl)
      go_simp
      refine hK.out _ _ (cb) (fun hHeld => ?_)
      clear hK K
      try simp only [Act.put, List.setIfInBounds_toArray, List.set_cons_zero, List.set_cons_succ]
      refine wpAnyH_ready (rs := [15]) (by kernel_rfl) (by simp) ?_
      refine' AllReadyH.cons (o := ?oiz16) ?haz16 (fun K hK => ?stepz16) AllReadyH.nil
      case haz16 => (simp only [List.getElem?_toArray, List.getElem?_cons_succ, List.getElem?_cons_zero]; exact rfl)
      go_simp
      go_at_call 160
      refine (deleteG_calls rq (iz lq) i B V.drew RQ.out (by rw [iz_length]; exact hil) (by rw [iz_length]; exact hlq2)).mono ?_
      rintro e V3 ⟨rn, rfl, hrn, hgn, hrr⟩
      have srn := hrn.isSl
      rw [← iz_erase] at hrn
      rw [← HRQ.out] at hgn hrr
      have gp2 := HGD.out.put hq1 hgn hrn (fun k hk => .inl (by rw [← hrr]; exact hk))
      have ow2 := HGD.out.grownOwn hq1 hgn
      have k20 := HGD.out.grownBox hq1 hgn
      have is2 : (V3.cell? (vat mv q)).isSome = true := by rw [ow2.cell (j := q) (by rw [HGD.out.len]; exact hq1)]; rfl
      have ff2 := ow2.frozen (j := q) (by rw [HGD.out.len]; exact hq1)
      have k30 := gp2.c0
      have bl2 : Below B w (V3.setCell (vat mv q) rn) := by
        have q1 : Below B w V.drew := BV2.out.drew
        have hBV : B ≤ V.drew.heap.size := by have := HGD.out.lt; have := HGD.out.ge; omega
        exact (q1.grown hgn hBV fun k hk => ((HGD.out.row q hq1).lt k hk).1).setCell (ow2.ge (j := q) (by rw [HGD.out.len]; exact hq1)) _
      have hq1v : q < vs1.length := by rw [HGD.out.len]; exact hq1
      have lo2 := HLO1.out.put (i := q) (r := rn) hq1v (fun k hk => by rw [← hrr]; exact hk)
      have kp2 : KeepC C w (V3.setCell (vat mv q) rn) := (HKP1.out.drew.grown hgn fun k hk => HLO1.out.2.2 q hq1v k hk).setCell (by rw [vat_block]; exact hmvC) _
      have HLO2 := Lib.hid lo2; have HKP2 := Lib.hid kp2
      have HGP2 := Lib.hid gp2; have HBL2 := Lib.hid bl2
      clear lo2 kp2
      clear hrn hgn hrr gp2 ow2 bl2
      refine hK.out _ _ (k20) (fun hHeld => ?_)
      clear hK K
      try simp only [Act.put, List.setIfInBounds_toArray, List.set_cons_zero, List.set_cons_succ]
      refine' wpAnyH_take (i := 16) (oi := ?oiz17) (v := ?vz17) ?haz17 (by kernel_rfl) ?hfz17 ?hrz17 ?hQz17 (Or.inl ⟨?hwz17, ?hyz17⟩) (by assumption) ?restz17
      case haz17 => (simp only [List.getElem?_toArray, List.getElem?_cons_succ, List.getElem?_cons_zero]; exact rfl)
      case hQz17 => exact fun _ _ _ h => h
      case hfz17 => kernel_rfl
      case hrz17 => kernel_rfl
      case hwz17 => rfl
      case hyz17 => (intro w hSw; (try dsimp only at hSw); have e0 := hSw; go_simp; (try with_reducible rfl))
      try simp only [Act.put, List.setIfInBounds_toArray, List.set_cons_zero, List.set_cons_succ]
      refine wpAnyH_ready (rs := [17]) (by kernel_rfl) (by simp) ?_
      refine' AllReadyH.cons (o := ?oiz18) ?haz18 (fun K hK => ?stepz18) AllReadyH.nil
      case haz18 => (simp only [List.getElem?_toArray, List.getElem?_cons_succ, List.getElem?_cons_zero]; exact rfl)
      go_simp
      refine hK.out _ _ (k30) (fun hHeld => ?_)
      clear hK K
      try simp only [Act.put, List.setIfInBounds_toArray, List.set_cons_zero, List.set_cons_succ]
      refine wpAnyH_done (by kernel_rfl) ?_ _
      go_wp2_with fail
      have hnew : WS B C g N mv R w (.int .i64 q) (V3.setCell (vat mv q) rn) f' := ⟨q, _, _, rfl, hqN, by rw [List.length_set]; exact hL1N, HW2.out, HGP2.out, HBL2.out, (fun j => by
        rcases Nat.lt_or_ge j L1.length with q1 | q1
        · rw [lnAt_set q1]
          split
          · rw [List.length_eraseIdx]; split <;> omega
          · exact HL12.out j
        · have : lnAt (L1.set q (lq.eraseIdx i)) j = [] := by unfold lnAt; rw [List.getD_eq_getElem?_getD, List.getElem?_eq_none (by simpa using q1)]; rfl
          rw [this]; simp), HLO2.out, HKP2.out⟩
      exact ⟨⟨f', hnew⟩, by rw [HM.out, hmf]; exact Nat.lt_succ_of_le (mu_le hnew)⟩

end Go.Proofs.Ytplekfgadbjgdaa


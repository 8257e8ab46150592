/- permgroup.add walked, with the contract of complete. -/
import Derived.Test.YtplekfgadbjgdaaQGroupOrbitStabilizer0
import Derived.Test.YtplekfgadbjgdaaQGroupOrbitStabilizer1
import Derived.Test.YtplekfgadbjgdaaQGroupOrbitStabilizer2
import Derived.Test.YtplekfgadbjgdaaQGroupOrbitStabilizer4
import Derived.Test.YtplekfgadbjgdaaQGroupOrbitStabilizer5
import Derived.Test.YtplekfgadbjgdaaQGroupOrbitStabilizer8
import Derived.Test.YtplekfgadbjgdaaQGroupOrbitStabilizer11
import Derived.Test.YtplekfgadbjgdaaQGroupOrbitStabilizer13
import Derived.Test.YtplekfgadbjgdaaQGroupOrbitStabilizer14
import Derived.Test.YtplekfgadbjgdaaQGroupOrbitStabilizer15

namespace Go.Proofs.Ytplekfgadbjgdaa
open Go.RowKit Go.Sl Go.Mp Go.Maps

/-- The contract of complete at level i. -/
def CompC (n B i : Nat) : Prop := ∀ (lab : Nat → Nat) (cv : Value) (bx : Nat → Nat) (C : Nat → Lv) (w : World), ChM lab w B n cv bx C → PosC n C → Half n i (i + 1) C → (C i).gs.length ≤ 2000 → (∀ j, i < j → (C j).gs.length + potC n C j ≤ 1000) → B ≤ w.heap.size →
  Calls Try.prog 152 #[cv, .int .i64 i] w fun e w' => e = .returned (.tuple #[]) ∧ ∃ lab' D, ChM lab' w' B n cv bx D ∧ CompRes n i C D ∧ KeepL i lab lab' w w'
/-- The contract of add from level i on. -/
def AddC (n B i : Nat) : Prop := ∀ (lab : Nat → Nat) (cv : Value) (bx : Nat → Nat) (C : Nat → Lv) (pv : Value) (p : List Int) (w : World), ChM lab w B n cv bx C → PosC n C → Half n i i C → (∀ j, i ≤ j → (C j).gs.length + potC n C j ≤ 1000) → RowL lab w pv p → Pm n p → (∀ x, x < i → Fixes p x) → B ≤ w.heap.size →
  Calls Try.prog 119 #[cv, pv, .int .i64 i] w fun e w' => e = .returned (.tuple #[]) ∧ ∃ lab' D, ChM lab' w' B n cv bx D ∧ AddRes n i p C D ∧ KeepL i lab lab' w w'
theorem LvM.grown {lab : Nat → Nat} {w w' : World} {B j b mb : Nat} {L : Lv} {gv ov : Value} {gvs : List Value} {m : Value → Option Value} (h : LvM lab w B j L b mb gv ov gvs m) (hb : Below w.heap.size w w') (hp : (∀ g ∈ L.gs, 0 < g.length) ∧ ∀ x u, L.rc x = some u → 0 < u.length) : LvM lab w' B j L b mb gv ov gvs m :=
  h.same hb.size (fun k h1 _ => hb.block k h1) (fun _ _ => rfl) hp.1 hp.2
theorem addG_pos {L : Lv} {p : List Int} (h : (∀ g ∈ L.gs, 0 < g.length) ∧ ∀ x u, L.rc x = some u → 0 < u.length) (hp : 0 < p.length) : (∀ g ∈ (addG L p).gs, 0 < g.length) ∧ ∀ x u, (addG L p).rc x = some u → 0 < u.length :=
  ⟨fun g hg => by
    rcases List.mem_append.1 hg with h1 | h1
    · exact h.1 g h1
    · rw [List.mem_singleton.1 h1]; exact hp, h.2⟩

set_option maxHeartbeats 8000000 in
set_option maxRecDepth 100000 in
theorem add_of (n B i : Nat) (hn : n ≤ 9) (hi : i ≤ n) (hcomp : ∀ j, i ≤ j → j < n → CompC n B j) : AddC n B i := by
  intro lab cv bx C pv p w hM hpos hC hbd hp hP hf hB
  have scv := hM.cs.1
  have lcv := sl_len hM.cs
  have sp := hp.1.isSl
  have HM := Lib.hid hM; have HPOS := Lib.hid hpos; have HC := Lib.hid hC; have HBD := Lib.hid hbd; have HP := Lib.hid hp; have HPP := Lib.hid hP; have HF := Lib.hid hf; have HCO := Lib.hid hcomp; have HB0 := Lib.hid hB
  clear hM hpos hC hbd hp hP hf hcomp hB
  go_enter Try.func119, Try.ntmps119
  go_wp2_with fail
  refine (sift_calls n B lab cv bx C i pv p w HM.out HPOS.out HC.out.lv HP.out HPP.out HF.out hi hn).mono ?_
  rintro e w1 ⟨p', i0, pv', rfl, hp', hsf, hnone, hb1⟩
  have sp' := hp'.1.isSl
  have l1 := hsf.le
  have l2 := hsf.len
  have HP' := Lib.hid hp'; have HSF := Lib.hid hsf; have HNO := Lib.hid hnone; have HB1 := Lib.hid hb1
  clear hp' hsf hnone hb1
  by_cases hlt : i0 < n
  · have h0 : 0 < n := by omega
    have hne : ((i0 : Int) == (n : Int)) = false := by rw [beq_eq_false_iff_ne]; omega
    have hp0 : 0 < p'.length := by rw [HSF.out.pm.2]; exact h0
    go_wp2_with fail
    clear hne
    go_loopw [6] (fun s wr => ∃ (t : Nat) (z : Int) (lab1 : Nat → Nat) (D : Nat → Lv), s = .int .i64 z ∧ z = (t : Int) - 1 ∧ i ≤ t ∧ t ≤ i0 + 1 ∧ ChM lab1 wr B n cv bx D ∧ PosC n D ∧ Adding n i0 t p' C D ∧ KeepL i lab lab1 w wr ∧ RowL lab1 wr pv' p') (fun s _ => (intOf s + 1).toNat)
    case atStart => exact ⟨i0 + 1, i0, lab, C, rfl, by omega, by omega, Nat.le_refl _, HM.out.grown HB1.out HPOS.out, HPOS.out, adding_start HC.out l1 p', KeepL.of_below _ _ HB1.out, HP'.out⟩
    case round =>
      obtain ⟨t, z, lab1, D, rfl, hz, ht1, ht2, hM, hpos, had, hK, hp⟩ := hrel
      by_cases htt : i + 1 ≤ t
      · obtain ⟨j, rfl⟩ : ∃ j, t = j + 1 := ⟨t - 1, by omega⟩
        obtain rfl : z = (j : Int) := by omega
        have hjn : j < n := by omega
        have hij : i ≤ j := by omega
        have eD : D j = C j := had.low j (Nat.lt_succ_self j)
        obtain ⟨mb, gv, ov, gvs, m, hL⟩ := hM.lv j hjn
        have sgv := hL.go.1
        have cptr := sl_ptr hM.cs hjn
        have hBw : B ≤ wr.heap.size := Nat.le_trans HB0.out hK.bel.size
        have hhalf := had.half (by omega) HC.out hij (by omega) hlt HSF.out.pm HSF.out.fix
        have hgl : gvs.length ≤ 1000 := by have h1 := HBD.out j hij; rw [hL.gl, eD]; omega
        have HMR := Lib.hid hM; have HPR := Lib.hid hpos; have HAD := Lib.hid had; have HKR := Lib.hid hK; have HPW := Lib.hid hp; have HL := Lib.hid hL; have HED := Lib.hid eD; have HHF := Lib.hid hhalf; have HBW := Lib.hid hBw; have CPT := Lib.hid cptr
        clear hM hpos had hK hp hL eD hhalf hBw hz cptr
        go_wp2_with fail
        refine wp_region_held_drew (S := fun W => W.cell? (vat cv j) = some (.pointer (some ⟨bx j, 0, none⟩))) (by kernel_rfl) (CPT.out) (fun hHeld => ?_)
        have BEL : Below (World.heap wr).size wr (World.drew wr) := (Below.refl _ _).drew
        obtain ⟨y0, hy0⟩ : ∃ y0, y0 = World.drew wr := ⟨_, rfl⟩
        rw [← hy0] at BEL  ⊢
        (try rw [← hy0] at hHeld)
        clear hy0
        refine' wpAnyH_take (i := 0) (oi := ?oiz1) (v := ?vz1) ?haz1 (by kernel_rfl) ?hfz1 ?hrz1 ?hQz1 (Or.inl ⟨?hwz1, ?hyz1⟩) (by assumption) ?restz1
        case haz1 => (simp only [List.getElem?_toArray, List.getElem?_cons_zero]; exact rfl)
        case hQz1 => exact fun _ _ _ h => h
        case hfz1 => kernel_rfl
        case hrz1 => kernel_rfl
        case hwz1 => rfl
        case hyz1 => (intro w hSw; (try dsimp only at hSw); have e0 := hSw; go_simp; (try with_reducible rfl))
        try simp only [Act.put, List.setIfInBounds_toArray, List.set_cons_zero, List.set_cons_succ]
        refine' wpAnyH_take (i := 1) (oi := ?oiz2) (v := ?vz2) ?haz2 (by kernel_rfl) ?hfz2 ?hrz2 ?hQz2 (Or.inl ⟨?hwz2, ?hyz2⟩) (by assumption) ?restz2
        case haz2 => (simp only [List.getElem?_toArray, List.getElem?_cons_succ, List.getElem?_cons_zero]; exact rfl)
        case hQz2 => exact fun _ _ _ h => h
        case hfz2 => kernel_rfl
        case hrz2 => kernel_rfl
        case hwz2 => rfl
        case hyz2 => (intro w hSw; (try dsimp only at hSw); have e0 := hSw; go_simp; (try with_reducible rfl))
        try simp only [Act.put, List.setIfInBounds_toArray, List.set_cons_zero, List.set_cons_succ]
        refine' wpAnyH_take (i := 2) (oi := ?oiz3) (v := ?vz3) ?haz3 (by kernel_rfl) ?hfz3 ?hrz3 ?hQz3 (Or.inl ⟨?hwz3, ?hyz3⟩) (by assumption) ?restz3
        case haz3 => (simp only [List.getElem?_toArray, List.getElem?_cons_succ, List.getElem?_cons_zero]; exact rfl)
        case hQz3 => exact fun _ _ _ h => h
        case hfz3 => kernel_rfl
        case hrz3 => kernel_rfl
        case hwz3 => rfl
        case hyz3 => (intro w hSw; (try dsimp only at hSw); have e0 := hSw; go_simp; (try with_reducible rfl))
        try simp only [Act.put, List.setIfInBounds_toArray, List.set_cons_zero, List.set_cons_succ]
        refine' wpAnyH_take (i := 3) (oi := ?oiz4) (v := ?vz4) ?haz4 (by kernel_rfl) ?hfz4 ?hrz4 ?hQz4 (Or.inl ⟨?hwz4, ?hyz4⟩) (by assumption) ?restz4
        case haz4 => (simp only [List.getElem?_toArray, List.getElem?_cons_succ, List.getElem?_cons_zero]; exact rfl)
        case hQz4 => exact fun _ _ _ h => h
        case hfz4 => kernel_rfl
        case hrz4 => kernel_rfl
        case hwz4 => rfl
        case hyz4 => (intro w hSw; (try dsimp only at hSw); have e0 := hSw; go_simp; (try with_reducible rfl))
        try simp only [Act.put, List.setIfInBounds_toArray, List.set_cons_zero, List.set_cons_succ]
        refine' wpAnyH_take (i := 4) (oi := ?oiz5) (v := ?vz5) ?haz5 (by kernel_rfl) ?hfz5 ?hrz5 ?hQz5 (Or.inl ⟨?hwz5, ?hyz5⟩) (by assumption) ?restz5
        case haz5 => (simp only [List.getElem?_toArray, List.getElem?_cons_succ, List.getElem?_cons_zero]; exact rfl)
        case hQz5 => exact fun _ _ _ h => h
        case hfz5 => kernel_rfl
        case hrz5 => kernel_rfl
        case hwz5 => rfl
        case hyz5 => (intro w hSw; (try dsimp only at hSw); have e0 := hSw; go_simp; (try with_reducible rfl))
        try simp only [Act.put, List.setIfInBounds_toArray, List.set_cons_zero, List.set_cons_succ]
        refine' wpAnyH_take (i := 5) (oi := ?oiz6) (v := ?vz6) ?haz6 (by kernel_rfl) ?hfz6 ?hrz6 ?hQz6 (Or.inl ⟨?hwz6, ?hyz6⟩) (by assumption) ?restz6
        case haz6 => (simp only [List.getElem?_toArray, List.getElem?_cons_succ, List.getElem?_cons_zero]; exact rfl)
        case hQz6 => exact fun _ _ _ h => h
        case hfz6 => kernel_rfl
        case hrz6 => kernel_rfl
        case hwz6 => rfl
        case hyz6 => (intro w hSw; (try dsimp only at hSw); have e0 := hSw; go_simp; (try with_reducible rfl))
        try simp only [Act.put, List.setIfInBounds_toArray, List.set_cons_zero, List.set_cons_succ]
        refine' wpAnyH_take (i := 6) (oi := ?oiz7) (v := ?vz7) ?haz7 (by kernel_rfl) ?hfz7 ?hrz7 ?hQz7 (Or.inl ⟨?hwz7, ?hyz7⟩) (by assumption) ?restz7
        case haz7 => (simp only [List.getElem?_toArray, List.getElem?_cons_succ, List.getElem?_cons_zero]; exact rfl)
        case hQz7 => exact fun _ _ _ h => h
        case hfz7 => kernel_rfl
        case hrz7 => kernel_rfl
        case hwz7 => rfl
        case hyz7 => (intro w hSw; (try dsimp only at hSw); have e0 := hSw; go_simp; (try with_reducible rfl))
        try simp only [Act.put, List.setIfInBounds_toArray, List.set_cons_zero, List.set_cons_succ]
        refine' wpAnyH_take (i := 7) (oi := ?oiz8) (v := ?vz8) ?haz8 (by kernel_rfl) ?hfz8 ?hrz8 ?hQz8 (Or.inl ⟨?hwz8, ?hyz8⟩) (by assumption) ?restz8
        case haz8 => (simp only [List.getElem?_toArray, List.getElem?_cons_succ, List.getElem?_cons_zero]; exact rfl)
        case hQz8 => exact fun _ _ _ h => h
        case hfz8 => kernel_rfl
        case hrz8 => kernel_rfl
        case hwz8 => rfl
        case hyz8 => (intro w hSw; (try dsimp only at hSw); have e0 := hSw; go_simp; (try with_reducible rfl))
        try simp only [Act.put, List.setIfInBounds_toArray, List.set_cons_zero, List.set_cons_succ]
        refine' wpAnyH_take (i := 8) (oi := ?oiz9) (v := ?vz9) ?haz9 (by kernel_rfl) ?hfz9 ?hrz9 ?hQz9 (Or.inl ⟨?hwz9, ?hyz9⟩) (by assumption) ?restz9
        case haz9 => (simp only [List.getElem?_toArray, List.getElem?_cons_succ, List.getElem?_cons_zero]; exact rfl)
        case hQz9 => exact fun _ _ _ h => h
        case hfz9 => kernel_rfl
        case hrz9 => kernel_rfl
        case hwz9 => rfl
        case hyz9 => (intro w hSw; (try dsimp only at hSw); have e0 := hSw; go_simp; (try with_reducible rfl))
        try simp only [Act.put, List.setIfInBounds_toArray, List.set_cons_zero, List.set_cons_succ]
        refine' wpAnyH_take (i := 9) (oi := ?oiz10) (v := ?vz10) ?haz10 (by kernel_rfl) ?hfz10 ?hrz10 ?hQz10 (Or.inl ⟨?hwz10, ?hyz10⟩) (by assumption) ?restz10
        case haz10 => (simp only [List.getElem?_toArray, List.getElem?_cons_succ, List.getElem?_cons_zero]; exact rfl)
        case hQz10 => exact fun _ _ _ h => h
        case hfz10 => kernel_rfl
        case hrz10 => kernel_rfl
        case hwz10 => rfl
        case hyz10 => (intro w hSw; (try dsimp only at hSw); have e0 := hSw; go_simp; (try with_reducible rfl))
        try simp only [Act.put, List.setIfInBounds_toArray, List.set_cons_zero, List.set_cons_succ]
        refine' wpAnyH_take (i := 11) (oi := ?oiz11) (v := ?vz11) ?haz11 (by kernel_rfl) ?hfz11 ?hrz11 ?hQz11 (Or.inl ⟨?hwz11, ?hyz11⟩) (by assumption) ?restz11
        case haz11 => (simp only [List.getElem?_toArray, List.getElem?_cons_succ, List.getElem?_cons_zero]; exact rfl)
        case hQz11 => exact fun _ _ _ h => h
        case hfz11 => kernel_rfl
        case hrz11 => kernel_rfl
        case hwz11 => rfl
        case hyz11 => (intro w hSw; (try dsimp only at hSw); have e0 := hSw; go_simp; (try with_reducible rfl))
        try simp only [Act.put, List.setIfInBounds_toArray, List.set_cons_zero, List.set_cons_succ]
        refine wpAnyH_ready (rs := [10, 12]) (by kernel_rfl) (by simp) ?_
        refine' AllReadyH.cons (o := ?oiz22) ?haz22 (fun K hK => ?stepz22) (AllReadyH.cons (o := ?oiz23) ?haz23 (fun K hK => ?stepz23) AllReadyH.nil)
        case haz22 => (simp only [List.getElem?_toArray, List.getElem?_cons_succ, List.getElem?_cons_zero]; exact rfl)
        case haz23 => (simp only [List.getElem?_toArray, List.getElem?_cons_succ, List.getElem?_cons_zero]; exact rfl)
        case stepz22 =>
          have aa0 := Tri.cell0 ((BEL.block _ HL.out.box.lt).trans HL.out.box)
          go_simp

          clear aa0
          refine hK.out _ _ (sl_ptr (HMR.out.cs.below BEL) hjn) (fun hHeld => ?_)
          clear hK K
          try simp only [Act.put, List.setIfInBounds_toArray, List.set_cons_zero, List.set_cons_succ]
          refine wpAnyH_ready (rs := [12]) (by kernel_rfl) (by simp) ?_
          refine' AllReadyH.cons (o := ?oiz16) ?haz16 (fun K hK => ?stepz16) AllReadyH.nil
          case haz16 => (simp only [List.getElem?_toArray, List.getElem?_cons_succ, List.getElem?_cons_zero]; exact rfl)
          go_simp
          obtain ⟨y1, hy1⟩ : ∃ y1, y1 = World.alloc y0 (.cells #[pv'] 22) := ⟨_, rfl⟩
          rw [← hy1]
          have sb : Below (World.heap y0).size y0 y1 := by rw [hy1]; exact (Below.refl _ _).alloc (Nat.le_refl _) _
          have HY12 := Lib.hid hy1
          have BW12 := Lib.hid BEL

          clear hy1
          replace BEL := Below.chain BEL sb
          clear sb
          refine hK.out _ _ (sl_ptr (HMR.out.cs.below BEL) hjn) (fun hHeld => ?_)
          clear hK K
          try simp only [Act.put, List.setIfInBounds_toArray, List.set_cons_zero, List.set_cons_succ]
          refine wpAnyH_ready (rs := [13]) (by kernel_rfl) (by simp) ?_
          refine' AllReadyH.cons (o := ?oiz15) ?haz15 (fun K hK => ?stepz15) AllReadyH.nil
          case haz15 => (simp only [List.getElem?_toArray, List.getElem?_cons_succ, List.getElem?_cons_zero]; exact rfl)

          rw [if_pos (by rfl)]
          refine step_pushS (.tmp 33) (.tmp 35) HY12.out rfl rfl rfl (Go.Sl.Own.below HL.out.go BW12.out) sp' (Nat.le_trans HBW.out BW12.out.size) (by omega) ?_
          intro v9 y9 ho9 hg9 hr9
          have s9 := ho9.1
          have LM := HL.out.grown BW12.out (HPR.out j hjn)
          have PG := ChM.pushG (HMR.out.grown BW12.out HPR.out) HPR.out hjn LM (HPW.out.grown BW12.out) hp0 (Nat.le_trans HBW.out BW12.out.size) ho9 hg9 hr9
          have kc9 : y9.cell? (vat cv j) = some (.pointer (some ⟨bx j, 0, none⟩)) := sl_ptr (Go.Sl.Sl.of_block (HMR.out.cs.below BW12.out) fun hl => hg9.block _ hl fun e => by have h1 := LM.lg _ e.symm; rw [HMR.out.cl h0] at h1; omega) hjn
          have k9 : Tri y9 (bx j) gv (.map (some mb)) ov := (hg9.block _ LM.box.lt fun e => by have h1 := LM.lg _ e.symm; rw [LM.lb] at h1; omega).trans LM.box
          refine hK.out _ _ (kc9) (fun hHeld => ?_)
          clear hK K
          try simp only [Act.put, List.setIfInBounds_toArray, List.set_cons_zero, List.set_cons_succ]
          refine' wpAnyH_take (i := 14) (oi := ?oiz12) (v := ?vz12) ?haz12 (by kernel_rfl) ?hfz12 ?hrz12 ?hQz12 (Or.inl ⟨?hwz12, ?hyz12⟩) (by assumption) ?restz12
          case haz12 => (simp only [List.getElem?_toArray, List.getElem?_cons_succ, List.getElem?_cons_zero]; exact rfl)
          case hQz12 => exact fun _ _ _ h => h
          case hfz12 => kernel_rfl
          case hrz12 => kernel_rfl
          case hwz12 => rfl
          case hyz12 => (intro w hSw; (try dsimp only at hSw); have e0 := hSw; go_simp; (try with_reducible rfl))
          try simp only [Act.put, List.setIfInBounds_toArray, List.set_cons_zero, List.set_cons_succ]
          refine' wpAnyH_take (i := 15) (oi := ?oiz13) (v := ?vz13) ?haz13 (by kernel_rfl) ?hfz13 ?hrz13 ?hQz13 (Or.inl ⟨?hwz13, ?hyz13⟩) (by assumption) ?restz13
          case haz13 => (simp only [List.getElem?_toArray, List.getElem?_cons_succ, List.getElem?_cons_zero]; exact rfl)
          case hQz13 => exact fun _ _ _ h => h
          case hfz13 => kernel_rfl
          case hrz13 => kernel_rfl
          case hwz13 => rfl
          case hyz13 => (intro w hSw; (try dsimp only at hSw); have e0 := hSw; go_simp; (try with_reducible rfl))
          try simp only [Act.put, List.setIfInBounds_toArray, List.set_cons_zero, List.set_cons_succ]
          refine wpAnyH_ready (rs := [16]) (by kernel_rfl) (by simp) ?_
          refine' AllReadyH.cons (o := ?oiz14) ?haz14 (fun K hK => ?stepz14) AllReadyH.nil
          case haz14 => (simp only [List.getElem?_toArray, List.getElem?_cons_succ, List.getElem?_cons_zero]; exact rfl)
          have f0 := k9.free 0; have b0 := k9.cell0
          go_simp

          clear f0 b0
          refine hK.out _ _ (sl_ptr PG.1.cs hjn) (fun hHeld => ?_)
          clear hK K
          try simp only [Act.put, List.setIfInBounds_toArray, List.set_cons_zero, List.set_cons_succ]
          refine wpAnyH_done (by kernel_rfl) ?_ _
          have HPG := Lib.hid PG
          have BWB := Lib.hid (KeepL.of_below i lab1 BW12.out)
          have hsz9 := hg9.size
          clear PG kc9 k9 LM ho9 hg9 hr9
          go_wp2_with fail
          have hposU := HPR.out.upd (i := j) (addG_pos (p := p') (HPR.out j hjn) hp0)
          have hHF := HHF.out
          rw [← HED.out] at hHF
          refine (HCO.out j hij hjn _ cv bx _ _ HPG.out.1 hposU hHF (by rw [updC_same]; show ((D j).gs ++ [p']).length ≤ 2000; rw [List.length_append, HED.out]; have h1 := HBD.out j hij; simp only [List.length_cons, List.length_nil]; omega) (fun k hk => ?_) (Nat.le_trans (Nat.le_trans HBW.out BW12.out.size) (by simpa using hsz9))).mono ?_
          · have h1 := HAD.out.sum k hk
            have h2 := HBD.out k (by omega)
            have h3 : potC n (updC D j (addG (D j) p')) k = potC n D k := pot_congr fun q hq => by rw [updC_other _ _ (by omega)]
            rw [updC_other _ _ (by omega), h3]; omega
          rintro e u ⟨rfl, lab3, E, hM3, hE, hK3⟩
          have hKw := HKR.out.trans (BWB.out.trans ((HPG.out.2.low hij).trans (hK3.low hij)))
          have hp3 := ((HPW.out.grown BW12.out).keep hp0 HPG.out.2).keep hp0 hK3
          have hposE : PosC n E := hposU.after (by omega) h0 hE.went.low hE.good.lv
          rw [HED.out] at hE
          have hnx := HAD.out.next (by omega) HC.out hij (by omega) hlt (HNO.out hlt) hE
          have HR := Lib.hid (show ChM lab3 u B n cv bx E ∧ PosC n E ∧ Adding n i0 j p' C E ∧ KeepL i lab lab3 w u ∧ RowL lab3 u pv' p' from ⟨hM3, hposE, hnx, hKw, hp3⟩)
          clear hM3 hposE hnx hKw hp3 hE hK3 hHF hposU
          go_wp2_with fail
          go_roundw
          case rel => exact ⟨j, _, lab3, E, rfl, rfl, hij, by omega, HR.out⟩
          case measure => (simp [intOf]; try omega)
        case stepz23 =>
          go_simp
          obtain ⟨y3, hy3⟩ : ∃ y3, y3 = World.alloc y0 (.cells #[pv'] 22) := ⟨_, rfl⟩
          rw [← hy3]
          have sb : Below (World.heap y0).size y0 y3 := by rw [hy3]; exact (Below.refl _ _).alloc (Nat.le_refl _) _
          have HY12 := Lib.hid hy3
          have BW12 := Lib.hid BEL

          clear hy3
          replace BEL := Below.chain BEL sb
          clear sb
          refine hK.out _ _ (sl_ptr (HMR.out.cs.below BEL) hjn) (fun hHeld => ?_)
          clear hK K
          try simp only [Act.put, List.setIfInBounds_toArray, List.set_cons_zero, List.set_cons_succ]
          refine wpAnyH_ready (rs := [10]) (by kernel_rfl) (by simp) ?_
          refine' AllReadyH.cons (o := ?oiz21) ?haz21 (fun K hK => ?stepz21) AllReadyH.nil
          case haz21 => (simp only [List.getElem?_toArray, List.getElem?_cons_succ, List.getElem?_cons_zero]; exact rfl)
          have aa0 := Tri.cell0 ((BEL.block _ HL.out.box.lt).trans HL.out.box)
          go_simp

          clear aa0
          refine hK.out _ _ (sl_ptr (HMR.out.cs.below BEL) hjn) (fun hHeld => ?_)
          clear hK K
          try simp only [Act.put, List.setIfInBounds_toArray, List.set_cons_zero, List.set_cons_succ]
          refine wpAnyH_ready (rs := [13]) (by kernel_rfl) (by simp) ?_
          refine' AllReadyH.cons (o := ?oiz20) ?haz20 (fun K hK => ?stepz20) AllReadyH.nil
          case haz20 => (simp only [List.getElem?_toArray, List.getElem?_cons_succ, List.getElem?_cons_zero]; exact rfl)

          rw [if_pos (by rfl)]
          refine step_pushS (.tmp 33) (.tmp 35) HY12.out rfl rfl rfl (Go.Sl.Own.below HL.out.go BW12.out) sp' (Nat.le_trans HBW.out BW12.out.size) (by omega) ?_
          intro v9 y9 ho9 hg9 hr9
          have s9 := ho9.1
          have LM := HL.out.grown BW12.out (HPR.out j hjn)
          have PG := ChM.pushG (HMR.out.grown BW12.out HPR.out) HPR.out hjn LM (HPW.out.grown BW12.out) hp0 (Nat.le_trans HBW.out BW12.out.size) ho9 hg9 hr9
          have kc9 : y9.cell? (vat cv j) = some (.pointer (some ⟨bx j, 0, none⟩)) := sl_ptr (Go.Sl.Sl.of_block (HMR.out.cs.below BW12.out) fun hl => hg9.block _ hl fun e => by have h1 := LM.lg _ e.symm; rw [HMR.out.cl h0] at h1; omega) hjn
          have k9 : Tri y9 (bx j) gv (.map (some mb)) ov := (hg9.block _ LM.box.lt fun e => by have h1 := LM.lg _ e.symm; rw [LM.lb] at h1; omega).trans LM.box
          refine hK.out _ _ (kc9) (fun hHeld => ?_)
          clear hK K
          try simp only [Act.put, List.setIfInBounds_toArray, List.set_cons_zero, List.set_cons_succ]
          refine' wpAnyH_take (i := 14) (oi := ?oiz17) (v := ?vz17) ?haz17 (by kernel_rfl) ?hfz17 ?hrz17 ?hQz17 (Or.inl ⟨?hwz17, ?hyz17⟩) (by assumption) ?restz17
          case haz17 => (simp only [List.getElem?_toArray, List.getElem?_cons_succ, List.getElem?_cons_zero]; exact rfl)
          case hQz17 => exact fun _ _ _ h => h
          case hfz17 => kernel_rfl
          case hrz17 => kernel_rfl
          case hwz17 => rfl
          case hyz17 => (intro w hSw; (try dsimp only at hSw); have e0 := hSw; go_simp; (try with_reducible rfl))
          try simp only [Act.put, List.setIfInBounds_toArray, List.set_cons_zero, List.set_cons_succ]
          refine' wpAnyH_take (i := 15) (oi := ?oiz18) (v := ?vz18) ?haz18 (by kernel_rfl) ?hfz18 ?hrz18 ?hQz18 (Or.inl ⟨?hwz18, ?hyz18⟩) (by assumption) ?restz18
          case haz18 => (simp only [List.getElem?_toArray, List.getElem?_cons_succ, List.getElem?_cons_zero]; exact rfl)
          case hQz18 => exact fun _ _ _ h => h
          case hfz18 => kernel_rfl
          case hrz18 => kernel_rfl
          case hwz18 => rfl
          case hyz18 => (intro w hSw; (try dsimp only at hSw); have e0 := hSw; go_simp; (try with_reducible rfl))
          try simp only [Act.put, List.setIfInBounds_toArray, List.set_cons_zero, List.set_cons_succ]
          refine wpAnyH_ready (rs := [16]) (by kernel_rfl) (by simp) ?_
          refine' AllReadyH.cons (o := ?oiz19) ?haz19 (fun K hK => ?stepz19) AllReadyH.nil
          case haz19 => (simp only [List.getElem?_toArray, List.getElem?_cons_succ, List.getElem?_cons_zero]; exact rfl)
          have f0 := k9.free 0; have b0 := k9.cell0
          go_simp

          clear f0 b0
          refine hK.out _ _ (sl_ptr PG.1.cs hjn) (fun hHeld => ?_)
          clear hK K
          try simp only [Act.put, List.setIfInBounds_toArray, List.set_cons_zero, List.set_cons_succ]
          refine wpAnyH_done (by kernel_rfl) ?_ _
          have HPG := Lib.hid PG
          have BWB := Lib.hid (KeepL.of_below i lab1 BW12.out)
          have hsz9 := hg9.size
          clear PG kc9 k9 LM ho9 hg9 hr9
          go_wp2_with fail
          have hposU := HPR.out.upd (i := j) (addG_pos (p := p') (HPR.out j hjn) hp0)
          have hHF := HHF.out
          rw [← HED.out] at hHF
          refine (HCO.out j hij hjn _ cv bx _ _ HPG.out.1 hposU hHF (by rw [updC_same]; show ((D j).gs ++ [p']).length ≤ 2000; rw [List.length_append, HED.out]; have h1 := HBD.out j hij; simp only [List.length_cons, List.length_nil]; omega) (fun k hk => ?_) (Nat.le_trans (Nat.le_trans HBW.out BW12.out.size) (by simpa using hsz9))).mono ?_
          · have h1 := HAD.out.sum k hk
            have h2 := HBD.out k (by omega)
            have h3 : potC n (updC D j (addG (D j) p')) k = potC n D k := pot_congr fun q hq => by rw [updC_other _ _ (by omega)]
            rw [updC_other _ _ (by omega), h3]; omega
          rintro e u ⟨rfl, lab3, E, hM3, hE, hK3⟩
          have hKw := HKR.out.trans (BWB.out.trans ((HPG.out.2.low hij).trans (hK3.low hij)))
          have hp3 := ((HPW.out.grown BW12.out).keep hp0 HPG.out.2).keep hp0 hK3
          have hposE : PosC n E := hposU.after (by omega) h0 hE.went.low hE.good.lv
          rw [HED.out] at hE
          have hnx := HAD.out.next (by omega) HC.out hij (by omega) hlt (HNO.out hlt) hE
          have HR := Lib.hid (show ChM lab3 u B n cv bx E ∧ PosC n E ∧ Adding n i0 j p' C E ∧ KeepL i lab lab3 w u ∧ RowL lab3 u pv' p' from ⟨hM3, hposE, hnx, hKw, hp3⟩)
          clear hM3 hposE hnx hKw hp3 hE hK3 hHF hposU
          go_wp2_with fail
          go_roundw
          case rel => exact ⟨j, _, lab3, E, rfl, rfl, hij, by omega, HR.out⟩
          case measure => (simp [intOf]; try omega)
      · obtain rfl : t = i := by omega
        have hR := had.res (by omega) hlt l1 HSF.out
        have HR := Lib.hid (show ChM lab1 wr B n cv bx D ∧ AddRes n t p C D ∧ KeepL t lab lab1 w wr from ⟨hM, hR, hK⟩)
        clear hM hpos had hK hp hR
        go_wp2_with fail
        first
        | exact bodyPost_end (v := .tuple #[]) (by simp [results, Try.results119, go_sem]) rfl ⟨rfl, lab1, D, HR.out⟩
        | exact bodyPost_ret (v := .tuple #[]) (by simp [results, Try.results119, go_sem]) rfl ⟨rfl, lab1, D, HR.out⟩
  · obtain rfl : i0 = n := by omega
    have HR := Lib.hid (show ChM lab w1 B i0 cv bx C ∧ AddRes i0 i p C C ∧ KeepL i lab lab w w1 from ⟨HM.out.grown HB1.out HPOS.out, addRes_none HC.out (by omega) HSF.out, KeepL.of_below _ _ HB1.out⟩)
    go_wp2_with fail
    first
    | exact bodyPost_ret (v := .tuple #[]) (by simp [results, Try.results119, go_sem]) rfl ⟨rfl, lab, C, HR.out⟩
    | exact bodyPost_end (v := .tuple #[]) (by simp [results, Try.results119, go_sem]) rfl ⟨rfl, lab, C, HR.out⟩
end Go.Proofs.Ytplekfgadbjgdaa


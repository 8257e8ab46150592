/- permgroup.complete walked, with the contract of add. -/
import Derived.Test.YtplekfgadbjgdaaQGroupOrbitStabilizer0
import Derived.Test.YtplekfgadbjgdaaQGroupOrbitStabilizer1
import Derived.Test.YtplekfgadbjgdaaQGroupOrbitStabilizer2
import Derived.Test.YtplekfgadbjgdaaQGroupOrbitStabilizer4
import Derived.Test.YtplekfgadbjgdaaQGroupOrbitStabilizer5
import Derived.Test.YtplekfgadbjgdaaQGroupOrbitStabilizer8
import Derived.Test.YtplekfgadbjgdaaQGroupOrbitStabilizer11
import Derived.Test.YtplekfgadbjgdaaQGroupOrbitStabilizer13
import Derived.Test.YtplekfgadbjgdaaQGroupOrbitStabilizer14
import Derived.Test.YtplekfgadbjgdaaQGroupOrbitStabilizer15
import Derived.Test.YtplekfgadbjgdaaQGroupOrbitStabilizer16

namespace Go.Proofs.Ytplekfgadbjgdaa
open Go.RowKit Go.Sl Go.Mp Go.Maps

theorem step_storeG {o : Oper} {a : Act} {w : World} {b nn : Nat} {m : Value → Option Value} {K' : Act → World → Prop} {Q : Exit → Act → World → Prop} (x y v : Operand) (hop : o.op = Op.mapUpdate 133 x y v) (hx : a.eval x = .map (some b)) (h : MapV Try.prog 3 w b nn m) {key val : Value} (hy : a.eval y = key) (hv : a.eval v = val) (hk : IsK Try.prog 3 key)
    (hK : ∀ w' m', MapV Try.prog 3 w' b (if (m key).isSome then nn else nn + 1) m' → m' key = some val → (∀ key', key' ≠ key → m' key' = m key') → w.grownBy w' (some b) → K' (a.put o.dst undef) w') : o.wp Try.prog a w K' Q := by
  obtain ⟨w', m', hrun, r1, r2, r3, r4, r5⟩ := h.store gkey Try.underlying133 val hk
  unfold Oper.wp
  simp [execOp, hop, hx, hy, hv, hrun, Result.andThen]
  exact hK w' m' r1 r2 r3 r4
theorem reach_eq {D : Nat → Lv} {i y : Nat} {v : List Int} : updC (updC D i ⟨(D i).gs, fun z => if z = y then some v else (D i).rc z, (D i).od⟩) i ⟨(updC D i ⟨(D i).gs, fun z => if z = y then some v else (D i).rc z, (D i).od⟩ i).gs, (updC D i ⟨(D i).gs, fun z => if z = y then some v else (D i).rc z, (D i).od⟩ i).rc, (updC D i ⟨(D i).gs, fun z => if z = y then some v else (D i).rc z, (D i).od⟩ i).od ++ [y]⟩ = updC D i (reachG (D i) y v) := by
  funext q
  rw [updC_same]
  unfold updC reachG
  split <;> rfl
/-- What is to be added fixes the points up to i. -/
theorem Compl.fix {n i k m : Nat} {C D : Nat → Lv} (h : Compl n i C D k m) (hn : n ≤ 1000) (hi : i < n) {x y : Nat} {u g w : List Int} (hu : (D i).rc x = some u) (hg : g ∈ (D i).gs) (hy : nth (thenL u g) i = (y : Int)) (hw : (D i).rc y = some w) :
    Pm n (thenL (thenL u g) (backL w)) ∧ ∀ z, z < i + 1 → Fixes (thenL (thenL u g) (backL w)) z := by
  have hl := h.half.lv i (Nat.le_refl _) hi
  have hU := hl.pm hn hu
  have hW := hl.pm hn hw
  have hG := hl.gpm g hg
  have fixr : ∀ {x' : Nat} {u' : List Int}, (D i).rc x' = some u' → ∀ z, z < i → Fixes u' z := fun hr z hz => (hl.rcs _ _ hr).2.2.fix hn hl.gpm (by omega) fun g hg => hl.gfix g hg z hz
  refine ⟨(hU.mul hG).mul hW.back, fun z hz => ?_⟩
  rcases Nat.lt_or_ge z i with h1 | h1
  · exact Fixes.mul (hU.mul hG) (by omega) (Fixes.mul hU (by omega) (fixr hu z h1) (hl.gfix g hg z h1)) (Fixes.back hW (by omega) (fixr hw z h1))
  · obtain rfl : z = i := by omega
    unfold Fixes
    rw [(hU.mul hG).at hi, hy, Int.toNat_natCast]
    have e := congrArg (fun l => nth l z) (pm_mulback hW)
    rw [hW.at hi, (hl.rcs y w hw).2.1, Int.toNat_natCast] at e
    rw [e]; exact nth_iota n z hi
theorem Half.behind {n i : Nat} {C : Nat → Lv} (h : Half n i (i + 1) C) : Half n (i + 1) (i + 1) C := ⟨fun j h1 h2 => h.lv j (by omega) h2, fun j h1 h2 => h.nest j (by omega) h2, h.done⟩

set_option maxHeartbeats 16000000 in
set_option maxRecDepth 100000 in
theorem complete_of (n B i : Nat) (hn : n ≤ 9) (hi : i < n) (hadd : AddC n B (i + 1)) : CompC n B i := by
  intro lab cv bx C w hM hpos hC hgs hbd hB
  have h0 : 0 < n := by omega
  have scv := hM.cs.1
  have lcv := sl_len hM.cs
  have cptr := sl_ptr hM.cs hi
  have HM := Lib.hid hM; have HPOS := Lib.hid hpos; have HC := Lib.hid hC; have HBD := Lib.hid hbd; have HADD := Lib.hid hadd; have HB0 := Lib.hid hB; have HGS := Lib.hid hgs
  clear hM hpos hC hbd hadd hB hgs
  go_enter Try.func152, Try.ntmps152
  go_wp2_with fail
  clear cptr
  go_loopw [5] (fun s wr => ∃ (k : Nat) (lab1 : Nat → Nat) (D : Nat → Lv) (mb : Nat) (gv ov : Value) (gvs : List Value) (m : Value → Option Value), s = .int .i64 k ∧ k ≤ (D i).od.length ∧ Compl n i C D k 0 ∧ ChM lab1 wr B n cv bx D ∧ LvM lab1 wr B i (D i) (bx i) mb gv ov gvs m ∧ KeepL i lab lab1 w wr ∧ PosC n D) (fun s _ => n - (intOf s).toNat)
  case atStart =>
    obtain ⟨mb, gv, ov, gvs, m, hL⟩ := HM.out.lv i hi
    exact ⟨0, lab, C, mb, gv, ov, gvs, m, rfl, Nat.zero_le _, compl_start HC.out, HM.out, hL, KeepL.refl _ _ _, HPOS.out⟩
  case round =>
    obtain ⟨k, lab1, D, mb, gv, ov, gvs, m, rfl, hk, hcp, hM, hL, hK, hpos⟩ := hrel
    have hlv := hcp.half.lv i (Nat.le_refl _) hi
    have hodn := hlv.od_le
    obtain ⟨N, hN⟩ : ∃ N, (D i).od.length = N := ⟨_, rfl⟩
    have sov := hL.oo.isSl
    have lov := hL.oo.len
    rw [List.length_map, hN] at lov
    rw [hN] at hk hodn
    have cb2 := hL.box.cell2
    have cb0 := hL.box.cell0
    have sgv := hL.go.1
    have lgv : vlen gv = gvs.length := by have := hL.go.2.1; omega
    obtain ⟨G, hG⟩ : ∃ G, gvs.length = G := ⟨_, rfl⟩
    rw [hG] at lgv
    have hGb : G ≤ 2000 := by have h1 := HGS.out; rw [← hcp.gs, ← hL.gl, hG] at h1; exact h1
    have HCP := Lib.hid hcp; have HMR := Lib.hid hM; have HL := Lib.hid hL; have HKR := Lib.hid hK; have HPR := Lib.hid hpos; have HNN := Lib.hid hN; have HGG := Lib.hid hG
    clear hcp hM hL hK hpos hN hG hlv
    by_cases hkN : k < N
    · go_wp2_with fail
      clear cb2 cb0
      go_loopw [30] (fun s wi => ∃ (q : Nat) (lab2 : Nat → Nat) (D2 : Nat → Lv) (mb2 : Nat) (ov2 : Value) (m2 : Value → Option Value), s = .int .i64 q ∧ q ≤ G ∧ Compl n i C D2 k q ∧ k < (D2 i).od.length ∧ ChM lab2 wi B n cv bx D2 ∧ LvM lab2 wi B i (D2 i) (bx i) mb2 gv ov2 gvs m2 ∧ KeepL i lab lab2 w wi ∧ PosC n D2) (fun s _ => G - (intOf s).toNat)
      case atStart => exact ⟨0, lab1, D, mb, ov, m, rfl, Nat.zero_le _, HCP.out, by rw [HNN.out]; exact hkN, HMR.out, HL.out, HKR.out, HPR.out⟩
      case round =>
        rename World => wi
        obtain ⟨q, lab2, D2, mb2, ov2, m2, rfl, hq, hcp, hkD, hM, hL, hK, hpos⟩ := hrel
        by_cases hqG : q < G
        · have hlv := hcp.half.lv i (Nat.le_refl _) hi
          have hqg : q < (D2 i).gs.length := by rw [← hL.gl, HGG.out]; exact hqG
          have hqv : q < gvs.length := by rw [HGG.out]; exact hqG
          have cg := Go.Sl.Own.cell hL.go hqv
          have rg := hL.gr q hqg
          rw [nthr_lt hqg] at rg
          obtain ⟨r, hr⟩ : ∃ r, nthv gvs q = r := ⟨_, rfl⟩
          have hr2 : gvs[q] = r := by rw [← hr]; simp [nthv, hqv]
          rw [hr2] at cg
          rw [hr] at rg
          obtain ⟨g, hg⟩ : ∃ g, (D2 i).gs[q] = g := ⟨_, rfl⟩
          rw [hg] at rg
          have hgm : g ∈ (D2 i).gs := by rw [← hg]; exact List.getElem_mem hqg
          have hGp := hlv.gpm g hgm
          obtain ⟨x, hx⟩ : ∃ x, (D2 i).od[k] = x := ⟨_, rfl⟩
          have hxm : x ∈ (D2 i).od := by rw [← hx]; exact List.getElem_mem hkD
          obtain ⟨u, hu⟩ := Option.ne_none_iff_exists'.1 ((hlv.odm x).1 hxm)
          have hUp := hlv.pm (by omega) hu
          have hxn := (hlv.rcs x u hu).1
          obtain ⟨uv, hmu, hru⟩ := hL.ms x u hu
          have sr := rg.1.isSl
          have su := hru.1.isSl
          have sov2 := hL.oo.isSl
          have lov2 := hL.oo.len
          rw [List.length_map] at lov2
          have hkv : k < vlen ov2 := by rw [lov2]; exact hkD
          have cok : ∀ W, Below wi.heap.size wi W → W.cell? (vat ov2 k) = some (.int .i64 (x : Int)) := fun W hb => by
            have h1 := (hL.oo.below hb).cell (k := k) (by rw [List.length_map]; exact hkD)
            rw [h1]
            congr 2
            rw [nth_lt (by rw [List.length_map]; exact hkD), List.getElem_map, hx]
          obtain ⟨nn, hmv⟩ := hL.mv
          have FACTS := Lib.hid (show ∀ W, Below wi.heap.size wi W → W.cell? ⟨bx i, 1, none⟩ = some (.map (some mb2)) ∧ W.cell? ⟨bx i, 2, none⟩ = some ov2 ∧ W.cell? (vat ov2 k) = some (.int .i64 (x : Int)) ∧ (Instr.lookup 133 (.map (some mb2)) (.int .i64 (x : Int)) false).run Try.prog W = .ok uv W from fun W hb => ⟨Tri.cell1 ((hb.block _ hL.box.lt).trans hL.box), Tri.cell2 ((hb.block _ hL.box.lt).trans hL.box), cok W hb, by
            have := (hmv.below hb).look false gkey Try.underlying133 (zero_ints W) (isK_int (x := x) (by omega))
            rw [hmu] at this
            simpa using this⟩)
          have HCP2 := Lib.hid hcp; have HM2 := Lib.hid hM; have HL2 := Lib.hid hL; have HK2 := Lib.hid hK; have HP2 := Lib.hid hpos; have HU := Lib.hid hu; have HGM := Lib.hid hgm; have HRG := Lib.hid rg; have HRU := Lib.hid hru; have HUP := Lib.hid hUp; have HGP := Lib.hid hGp; have HLV := Lib.hid hlv; have HKD := Lib.hid hkD; have HXX := Lib.hid hx; have HGQ := Lib.hid hg; have HQG := Lib.hid hqg
          clear hcp hM hL hK hpos hu hgm rg hru hUp hGp hlv hr hr2 hg hx hxm hmu hmv cok hqv lov2
          go_wp2_with fail
          refine wp_region_held_drew (S := fun W => Below wi.heap.size wi W) (by kernel_rfl) ((Below.refl _ _).drew) (fun hHeld => ?_)
          refine' wpAnyH_take (i := 0) (oi := ?oiz1) (v := ?vz1) ?haz1 (by kernel_rfl) ?hfz1 ?hrz1 ?hQz1 (Or.inl ⟨?hwz1, ?hyz1⟩) (by assumption) ?restz1
          case haz1 => (simp only [List.getElem?_toArray, List.getElem?_cons_zero]; exact rfl)
          case hQz1 => exact fun _ _ _ h => h
          case hfz1 => kernel_rfl
          case hrz1 => kernel_rfl
          case hwz1 => rfl
          case hyz1 => (intro w hSw; (try dsimp only at hSw); obtain ⟨e0, e1, e2, e3⟩ := FACTS.out _ hSw; go_simp; (try with_reducible rfl))
          try simp only [Act.put, List.setIfInBounds_toArray, List.set_cons_zero, List.set_cons_succ]
          refine' wpAnyH_take (i := 1) (oi := ?oiz2) (v := ?vz2) ?haz2 (by kernel_rfl) ?hfz2 ?hrz2 ?hQz2 (Or.inl ⟨?hwz2, ?hyz2⟩) (by assumption) ?restz2
          case haz2 => (simp only [List.getElem?_toArray, List.getElem?_cons_succ, List.getElem?_cons_zero]; exact rfl)
          case hQz2 => exact fun _ _ _ h => h
          case hfz2 => kernel_rfl
          case hrz2 => kernel_rfl
          case hwz2 => rfl
          case hyz2 => (intro w hSw; (try dsimp only at hSw); obtain ⟨e0, e1, e2, e3⟩ := FACTS.out _ hSw; go_simp; (try with_reducible rfl))
          try simp only [Act.put, List.setIfInBounds_toArray, List.set_cons_zero, List.set_cons_succ]
          refine' wpAnyH_take (i := 2) (oi := ?oiz3) (v := ?vz3) ?haz3 (by kernel_rfl) ?hfz3 ?hrz3 ?hQz3 (Or.inl ⟨?hwz3, ?hyz3⟩) (by assumption) ?restz3
          case haz3 => (simp only [List.getElem?_toArray, List.getElem?_cons_succ, List.getElem?_cons_zero]; exact rfl)
          case hQz3 => exact fun _ _ _ h => h
          case hfz3 => kernel_rfl
          case hrz3 => kernel_rfl
          case hwz3 => rfl
          case hyz3 => (intro w hSw; (try dsimp only at hSw); obtain ⟨e0, e1, e2, e3⟩ := FACTS.out _ hSw; go_simp; (try with_reducible rfl))
          try simp only [Act.put, List.setIfInBounds_toArray, List.set_cons_zero, List.set_cons_succ]
          refine' wpAnyH_take (i := 3) (oi := ?oiz4) (v := ?vz4) ?haz4 (by kernel_rfl) ?hfz4 ?hrz4 ?hQz4 (Or.inl ⟨?hwz4, ?hyz4⟩) (by assumption) ?restz4
          case haz4 => (simp only [List.getElem?_toArray, List.getElem?_cons_succ, List.getElem?_cons_zero]; exact rfl)
          case hQz4 => exact fun _ _ _ h => h
          case hfz4 => kernel_rfl
          case hrz4 => kernel_rfl
          case hwz4 => rfl
          case hyz4 => (intro w hSw; (try dsimp only at hSw); obtain ⟨e0, e1, e2, e3⟩ := FACTS.out _ hSw; go_simp; (try with_reducible rfl))
          try simp only [Act.put, List.setIfInBounds_toArray, List.set_cons_zero, List.set_cons_succ]
          refine' wpAnyH_take (i := 4) (oi := ?oiz5) (v := ?vz5) ?haz5 (by kernel_rfl) ?hfz5 ?hrz5 ?hQz5 (Or.inl ⟨?hwz5, ?hyz5⟩) (by assumption) ?restz5
          case haz5 => (simp only [List.getElem?_toArray, List.getElem?_cons_succ, List.getElem?_cons_zero]; exact rfl)
          case hQz5 => exact fun _ _ _ h => h
          case hfz5 => kernel_rfl
          case hrz5 => kernel_rfl
          case hwz5 => rfl
          case hyz5 => (intro w hSw; (try dsimp only at hSw); obtain ⟨e0, e1, e2, e3⟩ := FACTS.out _ hSw; go_simp; (try with_reducible rfl))
          try simp only [Act.put, List.setIfInBounds_toArray, List.set_cons_zero, List.set_cons_succ]
          refine' wpAnyH_take (i := 5) (oi := ?oiz6) (v := ?vz6) ?haz6 (by kernel_rfl) ?hfz6 ?hrz6 ?hQz6 (Or.inl ⟨?hwz6, ?hyz6⟩) (by assumption) ?restz6
          case haz6 => (simp only [List.getElem?_toArray, List.getElem?_cons_succ, List.getElem?_cons_zero]; exact rfl)
          case hQz6 => exact fun _ _ _ h => h
          case hfz6 => kernel_rfl
          case hrz6 => kernel_rfl
          case hwz6 => rfl
          case hyz6 => (intro w hSw; (try dsimp only at hSw); obtain ⟨e0, e1, e2, e3⟩ := FACTS.out _ hSw; go_simp; (try with_reducible rfl))
          try simp only [Act.put, List.setIfInBounds_toArray, List.set_cons_zero, List.set_cons_succ]
          refine' wpAnyH_take (i := 6) (oi := ?oiz7) (v := ?vz7) ?haz7 (by kernel_rfl) ?hfz7 ?hrz7 ?hQz7 (Or.inl ⟨?hwz7, ?hyz7⟩) (by assumption) ?restz7
          case haz7 => (simp only [List.getElem?_toArray, List.getElem?_cons_succ, List.getElem?_cons_zero]; exact rfl)
          case hQz7 => exact fun _ _ _ h => h
          case hfz7 => kernel_rfl
          case hrz7 => kernel_rfl
          case hwz7 => rfl
          case hyz7 => (intro w hSw; (try dsimp only at hSw); obtain ⟨e0, e1, e2, e3⟩ := FACTS.out _ hSw; go_simp; (try with_reducible rfl))
          try simp only [Act.put, List.setIfInBounds_toArray, List.set_cons_zero, List.set_cons_succ]
          refine' wpAnyH_take (i := 7) (oi := ?oiz8) (v := ?vz8) ?haz8 (by kernel_rfl) ?hfz8 ?hrz8 ?hQz8 (Or.inl ⟨?hwz8, ?hyz8⟩) (by assumption) ?restz8
          case haz8 => (simp only [List.getElem?_toArray, List.getElem?_cons_succ, List.getElem?_cons_zero]; exact rfl)
          case hQz8 => exact fun _ _ _ h => h
          case hfz8 => kernel_rfl
          case hrz8 => kernel_rfl
          case hwz8 => rfl
          case hyz8 => (intro w hSw; (try dsimp only at hSw); obtain ⟨e0, e1, e2, e3⟩ := FACTS.out _ hSw; go_simp; (try with_reducible rfl))
          try simp only [Act.put, List.setIfInBounds_toArray, List.set_cons_zero, List.set_cons_succ]
          refine' wpAnyH_take (i := 8) (oi := ?oiz9) (v := ?vz9) ?haz9 (by kernel_rfl) ?hfz9 ?hrz9 ?hQz9 (Or.inl ⟨?hwz9, ?hyz9⟩) (by assumption) ?restz9
          case haz9 => (simp only [List.getElem?_toArray, List.getElem?_cons_succ, List.getElem?_cons_zero]; exact rfl)
          case hQz9 => exact fun _ _ _ h => h
          case hfz9 => kernel_rfl
          case hrz9 => kernel_rfl
          case hwz9 => rfl
          case hyz9 => (intro w hSw; (try dsimp only at hSw); obtain ⟨e0, e1, e2, e3⟩ := FACTS.out _ hSw; go_simp; (try with_reducible rfl))
          try simp only [Act.put, List.setIfInBounds_toArray, List.set_cons_zero, List.set_cons_succ]
          refine' wpAnyH_take (i := 9) (oi := ?oiz10) (v := ?vz10) ?haz10 (by kernel_rfl) ?hfz10 ?hrz10 ?hQz10 (Or.inl ⟨?hwz10, ?hyz10⟩) (by assumption) ?restz10
          case haz10 => (simp only [List.getElem?_toArray, List.getElem?_cons_succ, List.getElem?_cons_zero]; exact rfl)
          case hQz10 => exact fun _ _ _ h => h
          case hfz10 => kernel_rfl
          case hrz10 => kernel_rfl
          case hwz10 => rfl
          case hyz10 => (intro w hSw; (try dsimp only at hSw); obtain ⟨e0, e1, e2, e3⟩ := FACTS.out _ hSw; go_simp; (try with_reducible rfl))
          try simp only [Act.put, List.setIfInBounds_toArray, List.set_cons_zero, List.set_cons_succ]
          refine' wpAnyH_take (i := 10) (oi := ?oiz11) (v := ?vz11) ?haz11 (by kernel_rfl) ?hfz11 ?hrz11 ?hQz11 (Or.inl ⟨?hwz11, ?hyz11⟩) (by assumption) ?restz11
          case haz11 => (simp only [List.getElem?_toArray, List.getElem?_cons_succ, List.getElem?_cons_zero]; exact rfl)
          case hQz11 => exact fun _ _ _ h => h
          case hfz11 => kernel_rfl
          case hrz11 => kernel_rfl
          case hwz11 => rfl
          case hyz11 => (intro w hSw; (try dsimp only at hSw); obtain ⟨e0, e1, e2, e3⟩ := FACTS.out _ hSw; go_simp; (try with_reducible rfl))
          try simp only [Act.put, List.setIfInBounds_toArray, List.set_cons_zero, List.set_cons_succ]
          refine' wpAnyH_take (i := 11) (oi := ?oiz12) (v := ?vz12) ?haz12 (by kernel_rfl) ?hfz12 ?hrz12 ?hQz12 (Or.inl ⟨?hwz12, ?hyz12⟩) (by assumption) ?restz12
          case haz12 => (simp only [List.getElem?_toArray, List.getElem?_cons_succ, List.getElem?_cons_zero]; exact rfl)
          case hQz12 => exact fun _ _ _ h => h
          case hfz12 => kernel_rfl
          case hrz12 => kernel_rfl
          case hwz12 => rfl
          case hyz12 => (intro w hSw; (try dsimp only at hSw); obtain ⟨e0, e1, e2, e3⟩ := FACTS.out _ hSw; go_simp; (try with_reducible rfl))
          try simp only [Act.put, List.setIfInBounds_toArray, List.set_cons_zero, List.set_cons_succ]
          refine' wpAnyH_take (i := 12) (oi := ?oiz13) (v := ?vz13) ?haz13 (by kernel_rfl) ?hfz13 ?hrz13 ?hQz13 (Or.inl ⟨?hwz13, ?hyz13⟩) (by assumption) ?restz13
          case haz13 => (simp only [List.getElem?_toArray, List.getElem?_cons_succ, List.getElem?_cons_zero]; exact rfl)
          case hQz13 => exact fun _ _ _ h => h
          case hfz13 => kernel_rfl
          case hrz13 => kernel_rfl
          case hwz13 => rfl
          case hyz13 => (intro w hSw; (try dsimp only at hSw); obtain ⟨e0, e1, e2, e3⟩ := FACTS.out _ hSw; go_simp; (try with_reducible rfl))
          try simp only [Act.put, List.setIfInBounds_toArray, List.set_cons_zero, List.set_cons_succ]
          refine wpAnyH_done (by kernel_rfl) ?_ _
          go_wp2_with fail
          refine (then_calls uv r u g _ (HRU.out.grown (Below.refl _ _).drew).1 (HRG.out.grown (Below.refl _ _).drew).1 (by rw [HUP.out.2]; omega) (fun z hz => by have h1 := HUP.out.1.range z hz; rw [HUP.out.2] at h1; rw [HGP.out.2]; omega)).mono ?_
          rintro e wv ⟨vv, rfl, hvv, hb⟩
          have svv := hvv.isSl
          have hbw := Below.chain (Below.refl wi.heap.size wi).drew hb
          obtain ⟨v, hv⟩ : ∃ v, thenL u g = v := ⟨_, rfl⟩
          rw [hv] at hvv
          have hVp : Pm n v := by rw [← hv]; exact HUP.out.mul HGP.out
          have hrv := RowL.made (lab := lab2) hvv (by rw [hVp.2]; exact h0) (show wi.heap.size ≤ wi.drew.heap.size from Nat.le_refl _) (fun b hb => (HM2.out.lt b hb).2)
          have lvv := hvv.len
          rw [hVp.2] at lvv
          have hM3 := HM2.out.grown hbw HP2.out
          have hL3 := HL2.out.grown hbw (HP2.out i hi)
          have hK3 := HK2.out.trans (KeepL.of_below i lab2 hbw)
          have hry := hVp.rng hi
          obtain ⟨y, hy⟩ : ∃ y : Nat, nth v i = (y : Int) := ⟨(nth v i).toNat, by omega⟩
          have hyn : y < n := by omega
          have hil : i < v.length := by rw [hVp.2]; exact hi
          obtain ⟨nn, hmv⟩ := hL3.mv
          replace FACTS := Lib.hid (show ∀ W, Below wv.heap.size wv W → W.cell? ⟨bx i, 1, none⟩ = some (.map (some mb2)) ∧ W.cell? (vat vv i) = some (.int .i64 (y : Int)) ∧ (Instr.lookup 133 (.map (some mb2)) (.int .i64 (y : Int)) true).run Try.prog W = .ok (.tuple #[(m2 (.int .i64 (y : Int))).getD (.slice none 0 0), .bool (m2 (.int .i64 (y : Int))).isSome]) W from fun W hb => ⟨Tri.cell1 ((hb.block _ hL3.box.lt).trans hL3.box), by rw [← hy]; exact (hrv.1.below hb).cell hil, by
            have := (hmv.below hb).look true gkey Try.underlying133 (zero_ints W) (isK_int (x := y) (by omega))
            simpa using this⟩)
          have HM3 := Lib.hid hM3; have HL3 := Lib.hid hL3; have HK3 := Lib.hid hK3; have HRV := Lib.hid hrv; have HVP := Lib.hid hVp; have HV := Lib.hid hv; have HY := Lib.hid hy; have HIL := Lib.hid hil
          clear hM3 hL3 hK3 hrv hVp hv hy hil hmv hvv hb hbw HM2 HL2 HK2 HRG HRU
          cases hrc : (D2 i).rc y with
          | some w2 =>
            obtain ⟨wv2, hmw, hrw⟩ := HL3.out.ms y w2 hrc
            rw [hmw] at FACTS
            have sw2 := hrw.1.isSl
            have hWp := HLV.out.pm (by omega) hrc
            have HRC := Lib.hid hrc; have HRW := Lib.hid hrw; have HWP := Lib.hid hWp
            clear hrc hmw hrw hWp
            go_wp2_with fail
            refine wp_region_held_drew (S := fun W => Below wv.heap.size wv W) (by kernel_rfl) ((Below.refl _ _).drew) (fun hHeld => ?_)
            refine' wpAnyH_take (i := 0) (oi := ?oiz14) (v := ?vz14) ?haz14 (by kernel_rfl) ?hfz14 ?hrz14 ?hQz14 (Or.inl ⟨?hwz14, ?hyz14⟩) (by assumption) ?restz14
            case haz14 => (simp only [List.getElem?_toArray, List.getElem?_cons_zero]; exact rfl)
            case hQz14 => exact fun _ _ _ h => h
            case hfz14 => kernel_rfl
            case hrz14 => kernel_rfl
            case hwz14 => rfl
            case hyz14 => (intro w hSw; (try dsimp only at hSw); obtain ⟨e0, e1, e2⟩ := FACTS.out _ hSw; go_simp; (try with_reducible rfl))
            try simp only [Act.put, List.setIfInBounds_toArray, List.set_cons_zero, List.set_cons_succ]
            refine' wpAnyH_take (i := 1) (oi := ?oiz15) (v := ?vz15) ?haz15 (by kernel_rfl) ?hfz15 ?hrz15 ?hQz15 (Or.inl ⟨?hwz15, ?hyz15⟩) (by assumption) ?restz15
            case haz15 => (simp only [List.getElem?_toArray, List.getElem?_cons_succ, List.getElem?_cons_zero]; exact rfl)
            case hQz15 => exact fun _ _ _ h => h
            case hfz15 => kernel_rfl
            case hrz15 => kernel_rfl
            case hwz15 => rfl
            case hyz15 => (intro w hSw; (try dsimp only at hSw); obtain ⟨e0, e1, e2⟩ := FACTS.out _ hSw; go_simp; (try with_reducible rfl))
            try simp only [Act.put, List.setIfInBounds_toArray, List.set_cons_zero, List.set_cons_succ]
            refine' wpAnyH_take (i := 2) (oi := ?oiz16) (v := ?vz16) ?haz16 (by kernel_rfl) ?hfz16 ?hrz16 ?hQz16 (Or.inl ⟨?hwz16, ?hyz16⟩) (by assumption) ?restz16
            case haz16 => (simp only [List.getElem?_toArray, List.getElem?_cons_succ, List.getElem?_cons_zero]; exact rfl)
            case hQz16 => exact fun _ _ _ h => h
            case hfz16 => kernel_rfl
            case hrz16 => kernel_rfl
            case hwz16 => rfl
            case hyz16 => (intro w hSw; (try dsimp only at hSw); obtain ⟨e0, e1, e2⟩ := FACTS.out _ hSw; go_simp; (try with_reducible rfl))
            try simp only [Act.put, List.setIfInBounds_toArray, List.set_cons_zero, List.set_cons_succ]
            refine' wpAnyH_take (i := 3) (oi := ?oiz17) (v := ?vz17) ?haz17 (by kernel_rfl) ?hfz17 ?hrz17 ?hQz17 (Or.inl ⟨?hwz17, ?hyz17⟩) (by assumption) ?restz17
            case haz17 => (simp only [List.getElem?_toArray, List.getElem?_cons_succ, List.getElem?_cons_zero]; exact rfl)
            case hQz17 => exact fun _ _ _ h => h
            case hfz17 => kernel_rfl
            case hrz17 => kernel_rfl
            case hwz17 => rfl
            case hyz17 => (intro w hSw; (try dsimp only at hSw); obtain ⟨e0, e1, e2⟩ := FACTS.out _ hSw; go_simp; (try with_reducible rfl))
            try simp only [Act.put, List.setIfInBounds_toArray, List.set_cons_zero, List.set_cons_succ]
            refine' wpAnyH_take (i := 4) (oi := ?oiz18) (v := ?vz18) ?haz18 (by kernel_rfl) ?hfz18 ?hrz18 ?hQz18 (Or.inl ⟨?hwz18, ?hyz18⟩) (by assumption) ?restz18
            case haz18 => (simp only [List.getElem?_toArray, List.getElem?_cons_succ, List.getElem?_cons_zero]; exact rfl)
            case hQz18 => exact fun _ _ _ h => h
            case hfz18 => kernel_rfl
            case hrz18 => kernel_rfl
            case hwz18 => rfl
            case hyz18 => (intro w hSw; (try dsimp only at hSw); obtain ⟨e0, e1, e2⟩ := FACTS.out _ hSw; go_simp; (try with_reducible rfl))
            try simp only [Act.put, List.setIfInBounds_toArray, List.set_cons_zero, List.set_cons_succ]
            refine' wpAnyH_take (i := 5) (oi := ?oiz19) (v := ?vz19) ?haz19 (by kernel_rfl) ?hfz19 ?hrz19 ?hQz19 (Or.inl ⟨?hwz19, ?hyz19⟩) (by assumption) ?restz19
            case haz19 => (simp only [List.getElem?_toArray, List.getElem?_cons_succ, List.getElem?_cons_zero]; exact rfl)
            case hQz19 => exact fun _ _ _ h => h
            case hfz19 => kernel_rfl
            case hrz19 => kernel_rfl
            case hwz19 => rfl
            case hyz19 => (intro w hSw; (try dsimp only at hSw); obtain ⟨e0, e1, e2⟩ := FACTS.out _ hSw; go_simp; (try with_reducible rfl))
            try simp only [Act.put, List.setIfInBounds_toArray, List.set_cons_zero, List.set_cons_succ]
            refine' wpAnyH_take (i := 6) (oi := ?oiz20) (v := ?vz20) ?haz20 (by kernel_rfl) ?hfz20 ?hrz20 ?hQz20 (Or.inl ⟨?hwz20, ?hyz20⟩) (by assumption) ?restz20
            case haz20 => (simp only [List.getElem?_toArray, List.getElem?_cons_succ, List.getElem?_cons_zero]; exact rfl)
            case hQz20 => exact fun _ _ _ h => h
            case hfz20 => kernel_rfl
            case hrz20 => kernel_rfl
            case hwz20 => rfl
            case hyz20 => (intro w hSw; (try dsimp only at hSw); obtain ⟨e0, e1, e2⟩ := FACTS.out _ hSw; go_simp; (try with_reducible rfl))
            try simp only [Act.put, List.setIfInBounds_toArray, List.set_cons_zero, List.set_cons_succ]
            refine' wpAnyH_take (i := 7) (oi := ?oiz21) (v := ?vz21) ?haz21 (by kernel_rfl) ?hfz21 ?hrz21 ?hQz21 (Or.inl ⟨?hwz21, ?hyz21⟩) (by assumption) ?restz21
            case haz21 => (simp only [List.getElem?_toArray, List.getElem?_cons_succ, List.getElem?_cons_zero]; exact rfl)
            case hQz21 => exact fun _ _ _ h => h
            case hfz21 => kernel_rfl
            case hrz21 => kernel_rfl
            case hwz21 => rfl
            case hyz21 => (intro w hSw; (try dsimp only at hSw); obtain ⟨e0, e1, e2⟩ := FACTS.out _ hSw; go_simp; (try with_reducible rfl))
            try simp only [Act.put, List.setIfInBounds_toArray, List.set_cons_zero, List.set_cons_succ]
            refine' wpAnyH_take (i := 8) (oi := ?oiz22) (v := ?vz22) ?haz22 (by kernel_rfl) ?hfz22 ?hrz22 ?hQz22 (Or.inl ⟨?hwz22, ?hyz22⟩) (by assumption) ?restz22
            case haz22 => (simp only [List.getElem?_toArray, List.getElem?_cons_succ, List.getElem?_cons_zero]; exact rfl)
            case hQz22 => exact fun _ _ _ h => h
            case hfz22 => kernel_rfl
            case hrz22 => kernel_rfl
            case hwz22 => rfl
            case hyz22 => (intro w hSw; (try dsimp only at hSw); obtain ⟨e0, e1, e2⟩ := FACTS.out _ hSw; go_simp; (try with_reducible rfl))
            try simp only [Act.put, List.setIfInBounds_toArray, List.set_cons_zero, List.set_cons_succ]
            refine' wpAnyH_take (i := 9) (oi := ?oiz23) (v := ?vz23) ?haz23 (by kernel_rfl) ?hfz23 ?hrz23 ?hQz23 (Or.inl ⟨?hwz23, ?hyz23⟩) (by assumption) ?restz23
            case haz23 => (simp only [List.getElem?_toArray, List.getElem?_cons_succ, List.getElem?_cons_zero]; exact rfl)
            case hQz23 => exact fun _ _ _ h => h
            case hfz23 => kernel_rfl
            case hrz23 => kernel_rfl
            case hwz23 => rfl
            case hyz23 => (intro w hSw; (try dsimp only at hSw); obtain ⟨e0, e1, e2⟩ := FACTS.out _ hSw; go_simp; (try with_reducible rfl))
            try simp only [Act.put, List.setIfInBounds_toArray, List.set_cons_zero, List.set_cons_succ]
            refine' wpAnyH_take (i := 10) (oi := ?oiz24) (v := ?vz24) ?haz24 (by kernel_rfl) ?hfz24 ?hrz24 ?hQz24 (Or.inl ⟨?hwz24, ?hyz24⟩) (by assumption) ?restz24
            case haz24 => (simp only [List.getElem?_toArray, List.getElem?_cons_succ, List.getElem?_cons_zero]; exact rfl)
            case hQz24 => exact fun _ _ _ h => h
            case hfz24 => kernel_rfl
            case hrz24 => kernel_rfl
            case hwz24 => rfl
            case hyz24 => (intro w hSw; (try dsimp only at hSw); obtain ⟨e0, e1, e2⟩ := FACTS.out _ hSw; go_simp; (try with_reducible rfl))
            try simp only [Act.put, List.setIfInBounds_toArray, List.set_cons_zero, List.set_cons_succ]
            refine' wpAnyH_take (i := 11) (oi := ?oiz25) (v := ?vz25) ?haz25 (by kernel_rfl) ?hfz25 ?hrz25 ?hQz25 (Or.inl ⟨?hwz25, ?hyz25⟩) (by assumption) ?restz25
            case haz25 => (simp only [List.getElem?_toArray, List.getElem?_cons_succ, List.getElem?_cons_zero]; exact rfl)
            case hQz25 => exact fun _ _ _ h => h
            case hfz25 => kernel_rfl
            case hrz25 => kernel_rfl
            case hwz25 => rfl
            case hyz25 => (intro w hSw; (try dsimp only at hSw); obtain ⟨e0, e1, e2⟩ := FACTS.out _ hSw; go_simp; (try with_reducible rfl))
            try simp only [Act.put, List.setIfInBounds_toArray, List.set_cons_zero, List.set_cons_succ]
            refine' wpAnyH_take (i := 12) (oi := ?oiz26) (v := ?vz26) ?haz26 (by kernel_rfl) ?hfz26 ?hrz26 ?hQz26 (Or.inl ⟨?hwz26, ?hyz26⟩) (by assumption) ?restz26
            case haz26 => (simp only [List.getElem?_toArray, List.getElem?_cons_succ, List.getElem?_cons_zero]; exact rfl)
            case hQz26 => exact fun _ _ _ h => h
            case hfz26 => kernel_rfl
            case hrz26 => kernel_rfl
            case hwz26 => rfl
            case hyz26 => (intro w hSw; (try dsimp only at hSw); obtain ⟨e0, e1, e2⟩ := FACTS.out _ hSw; go_simp; (try with_reducible rfl))
            try simp only [Act.put, List.setIfInBounds_toArray, List.set_cons_zero, List.set_cons_succ]
            refine' wpAnyH_take (i := 13) (oi := ?oiz27) (v := ?vz27) ?haz27 (by kernel_rfl) ?hfz27 ?hrz27 ?hQz27 (Or.inl ⟨?hwz27, ?hyz27⟩) (by assumption) ?restz27
            case haz27 => (simp only [List.getElem?_toArray, List.getElem?_cons_succ, List.getElem?_cons_zero]; exact rfl)
            case hQz27 => exact fun _ _ _ h => h
            case hfz27 => kernel_rfl
            case hrz27 => kernel_rfl
            case hwz27 => rfl
            case hyz27 => (intro w hSw; (try dsimp only at hSw); obtain ⟨e0, e1, e2⟩ := FACTS.out _ hSw; go_simp; (try with_reducible rfl))
            try simp only [Act.put, List.setIfInBounds_toArray, List.set_cons_zero, List.set_cons_succ]
            refine wpAnyH_done (by kernel_rfl) ?_ _
            go_wp2_with fail
            refine (back_calls wv2 w2 _ (HRW.out.grown (Below.refl _ _).drew).1 HWP.out.1).mono ?_
            rintro e w5 ⟨bv, rfl, hbv, hb1⟩
            have sbv := hbv.isSl
            have HBV := Lib.hid hbv.ints; have HB1 := Lib.hid (Below.chain (Below.refl wv.heap.size wv).drew hb1)
            clear hbv hb1
            go_wp2_with fail
            refine (then_calls vv bv v (backL w2) _ (HRV.out.grown HB1.out).1 HBV.out (by rw [HVP.out.2]; omega) (fun z hz => by have h1 := HVP.out.1.range z hz; rw [HVP.out.2] at h1; rw [HWP.out.back.2]; omega)).mono ?_
            rintro e w6 ⟨qv, rfl, hqv, hb2⟩
            have sqv := hqv.isSl
            have hB2 := Below.chain HB1.out hb2
            have hrq := RowL.made (lab := lab2) hqv (by rw [thenL_length, HVP.out.2]; exact h0) (show wv.heap.size ≤ w5.heap.size from HB1.out.size) (fun b hb => (HM3.out.lt b hb).2)
            have HRQ := Lib.hid hrq; have HB2 := Lib.hid hB2
            clear hrq hB2 hqv hb2
            have hfx := HCP2.out.fix (by omega) hi HU.out HGM.out (by rw [HV.out]; exact HY.out) HRC.out
            rw [HV.out] at hfx
            have HFX := Lib.hid hfx
            clear hfx
            have hpo : ∀ j, i + 1 ≤ j → (D2 j).gs.length + potC n D2 j ≤ 1000 := fun j hj => Nat.le_trans (HCP2.out.went.sum j (by omega)) (HBD.out j (by omega))
            have HPO := Lib.hid hpo
            clear hpo
            go_wp2_with fail
            refine (HADD.out lab2 cv bx D2 qv _ _ (HM3.out.grown HB2.out HP2.out) HP2.out HCP2.out.half.behind HPO.out HRQ.out HFX.out.1 HFX.out.2 (Nat.le_trans HB0.out (Nat.le_trans HK3.out.bel.size HB2.out.size))).mono ?_
            rintro e w7 ⟨rfl, lab3, E, hM4, hE, hK4⟩
            have eE : E i = D2 i := hE.went.low i (Nat.lt_succ_self i)
            have hL4 := (HL3.out.grown HB2.out (HP2.out i hi)).low hK4 (Nat.lt_succ_self i) (HP2.out i hi).1 (HP2.out i hi).2
            rw [← eE] at hL4
            have hP4 : PosC n E := HP2.out.after (by omega) h0 hE.went.low hE.good.lv
            have hK5 := HK3.out.trans ((KeepL.of_below i lab2 HB2.out).trans (hK4.low (Nat.le_succ i)))
            have hfd : Compl n i C E k (q + 1) := HCP2.out.found (by omega) hi HKD.out HQG.out (u := u) (w := w2) (by rw [HXX.out]; exact HU.out) (by rw [HGQ.out, HV.out, HY.out, Int.toNat_natCast]; exact HRC.out) (by rw [HGQ.out, HV.out]; exact hE)
            have HR := Lib.hid (show Compl n i C E k (q + 1) ∧ k < (E i).od.length ∧ ChM lab3 w7 B n cv bx E ∧ LvM lab3 w7 B i (E i) (bx i) mb2 gv ov2 gvs m2 ∧ KeepL i lab lab3 w w7 ∧ PosC n E from ⟨hfd, by rw [eE]; exact HKD.out, hM4, hL4, hK5, hP4⟩)
            clear hM4 hE hK4 eE hL4 hP4 hK5 hfd
            go_wp2_with fail
            go_roundw
            case rel => exact ⟨q + 1, lab3, E, mb2, ov2, m2, by go_num, by omega, HR.out⟩
            case measure => (simp [intOf]; try omega)
          | none =>
            have hmn := HL3.out.mn y hrc
            rw [hmn] at FACTS
            have HRC := Lib.hid hrc
            clear hrc hmn
            go_wp2_with fail
            refine wp_region_held_drew (S := fun W => Below wv.heap.size wv W) (by kernel_rfl) ((Below.refl _ _).drew) (fun hHeld => ?_)
            refine' wpAnyH_take (i := 0) (oi := ?oiz28) (v := ?vz28) ?haz28 (by kernel_rfl) ?hfz28 ?hrz28 ?hQz28 (Or.inl ⟨?hwz28, ?hyz28⟩) (by assumption) ?restz28
            case haz28 => (simp only [List.getElem?_toArray, List.getElem?_cons_zero]; exact rfl)
            case hQz28 => exact fun _ _ _ h => h
            case hfz28 => kernel_rfl
            case hrz28 => kernel_rfl
            case hwz28 => rfl
            case hyz28 => (intro w hSw; (try dsimp only at hSw); obtain ⟨e0, e1, e2⟩ := FACTS.out _ hSw; go_simp; (try with_reducible rfl))
            try simp only [Act.put, List.setIfInBounds_toArray, List.set_cons_zero, List.set_cons_succ]
            refine' wpAnyH_take (i := 1) (oi := ?oiz29) (v := ?vz29) ?haz29 (by kernel_rfl) ?hfz29 ?hrz29 ?hQz29 (Or.inl ⟨?hwz29, ?hyz29⟩) (by assumption) ?restz29
            case haz29 => (simp only [List.getElem?_toArray, List.getElem?_cons_succ, List.getElem?_cons_zero]; exact rfl)
            case hQz29 => exact fun _ _ _ h => h
            case hfz29 => kernel_rfl
            case hrz29 => kernel_rfl
            case hwz29 => rfl
            case hyz29 => (intro w hSw; (try dsimp only at hSw); obtain ⟨e0, e1, e2⟩ := FACTS.out _ hSw; go_simp; (try with_reducible rfl))
            try simp only [Act.put, List.setIfInBounds_toArray, List.set_cons_zero, List.set_cons_succ]
            refine' wpAnyH_take (i := 2) (oi := ?oiz30) (v := ?vz30) ?haz30 (by kernel_rfl) ?hfz30 ?hrz30 ?hQz30 (Or.inl ⟨?hwz30, ?hyz30⟩) (by assumption) ?restz30
            case haz30 => (simp only [List.getElem?_toArray, List.getElem?_cons_succ, List.getElem?_cons_zero]; exact rfl)
            case hQz30 => exact fun _ _ _ h => h
            case hfz30 => kernel_rfl
            case hrz30 => kernel_rfl
            case hwz30 => rfl
            case hyz30 => (intro w hSw; (try dsimp only at hSw); obtain ⟨e0, e1, e2⟩ := FACTS.out _ hSw; go_simp; (try with_reducible rfl))
            try simp only [Act.put, List.setIfInBounds_toArray, List.set_cons_zero, List.set_cons_succ]
            refine' wpAnyH_take (i := 3) (oi := ?oiz31) (v := ?vz31) ?haz31 (by kernel_rfl) ?hfz31 ?hrz31 ?hQz31 (Or.inl ⟨?hwz31, ?hyz31⟩) (by assumption) ?restz31
            case haz31 => (simp only [List.getElem?_toArray, List.getElem?_cons_succ, List.getElem?_cons_zero]; exact rfl)
            case hQz31 => exact fun _ _ _ h => h
            case hfz31 => kernel_rfl
            case hrz31 => kernel_rfl
            case hwz31 => rfl
            case hyz31 => (intro w hSw; (try dsimp only at hSw); obtain ⟨e0, e1, e2⟩ := FACTS.out _ hSw; go_simp; (try with_reducible rfl))
            try simp only [Act.put, List.setIfInBounds_toArray, List.set_cons_zero, List.set_cons_succ]
            refine' wpAnyH_take (i := 4) (oi := ?oiz32) (v := ?vz32) ?haz32 (by kernel_rfl) ?hfz32 ?hrz32 ?hQz32 (Or.inl ⟨?hwz32, ?hyz32⟩) (by assumption) ?restz32
            case haz32 => (simp only [List.getElem?_toArray, List.getElem?_cons_succ, List.getElem?_cons_zero]; exact rfl)
            case hQz32 => exact fun _ _ _ h => h
            case hfz32 => kernel_rfl
            case hrz32 => kernel_rfl
            case hwz32 => rfl
            case hyz32 => (intro w hSw; (try dsimp only at hSw); obtain ⟨e0, e1, e2⟩ := FACTS.out _ hSw; go_simp; (try with_reducible rfl))
            try simp only [Act.put, List.setIfInBounds_toArray, List.set_cons_zero, List.set_cons_succ]
            refine' wpAnyH_take (i := 5) (oi := ?oiz33) (v := ?vz33) ?haz33 (by kernel_rfl) ?hfz33 ?hrz33 ?hQz33 (Or.inl ⟨?hwz33, ?hyz33⟩) (by assumption) ?restz33
            case haz33 => (simp only [List.getElem?_toArray, List.getElem?_cons_succ, List.getElem?_cons_zero]; exact rfl)
            case hQz33 => exact fun _ _ _ h => h
            case hfz33 => kernel_rfl
            case hrz33 => kernel_rfl
            case hwz33 => rfl
            case hyz33 => (intro w hSw; (try dsimp only at hSw); obtain ⟨e0, e1, e2⟩ := FACTS.out _ hSw; go_simp; (try with_reducible rfl))
            try simp only [Act.put, List.setIfInBounds_toArray, List.set_cons_zero, List.set_cons_succ]
            refine' wpAnyH_take (i := 6) (oi := ?oiz34) (v := ?vz34) ?haz34 (by kernel_rfl) ?hfz34 ?hrz34 ?hQz34 (Or.inl ⟨?hwz34, ?hyz34⟩) (by assumption) ?restz34
            case haz34 => (simp only [List.getElem?_toArray, List.getElem?_cons_succ, List.getElem?_cons_zero]; exact rfl)
            case hQz34 => exact fun _ _ _ h => h
            case hfz34 => kernel_rfl
            case hrz34 => kernel_rfl
            case hwz34 => rfl
            case hyz34 => (intro w hSw; (try dsimp only at hSw); obtain ⟨e0, e1, e2⟩ := FACTS.out _ hSw; go_simp; (try with_reducible rfl))
            try simp only [Act.put, List.setIfInBounds_toArray, List.set_cons_zero, List.set_cons_succ]
            refine' wpAnyH_take (i := 7) (oi := ?oiz35) (v := ?vz35) ?haz35 (by kernel_rfl) ?hfz35 ?hrz35 ?hQz35 (Or.inl ⟨?hwz35, ?hyz35⟩) (by assumption) ?restz35
            case haz35 => (simp only [List.getElem?_toArray, List.getElem?_cons_succ, List.getElem?_cons_zero]; exact rfl)
            case hQz35 => exact fun _ _ _ h => h
            case hfz35 => kernel_rfl
            case hrz35 => kernel_rfl
            case hwz35 => rfl
            case hyz35 => (intro w hSw; (try dsimp only at hSw); obtain ⟨e0, e1, e2⟩ := FACTS.out _ hSw; go_simp; (try with_reducible rfl))
            try simp only [Act.put, List.setIfInBounds_toArray, List.set_cons_zero, List.set_cons_succ]
            refine' wpAnyH_take (i := 8) (oi := ?oiz36) (v := ?vz36) ?haz36 (by kernel_rfl) ?hfz36 ?hrz36 ?hQz36 (Or.inl ⟨?hwz36, ?hyz36⟩) (by assumption) ?restz36
            case haz36 => (simp only [List.getElem?_toArray, List.getElem?_cons_succ, List.getElem?_cons_zero]; exact rfl)
            case hQz36 => exact fun _ _ _ h => h
            case hfz36 => kernel_rfl
            case hrz36 => kernel_rfl
            case hwz36 => rfl
            case hyz36 => (intro w hSw; (try dsimp only at hSw); obtain ⟨e0, e1, e2⟩ := FACTS.out _ hSw; go_simp; (try with_reducible rfl))
            try simp only [Act.put, List.setIfInBounds_toArray, List.set_cons_zero, List.set_cons_succ]
            refine' wpAnyH_take (i := 9) (oi := ?oiz37) (v := ?vz37) ?haz37 (by kernel_rfl) ?hfz37 ?hrz37 ?hQz37 (Or.inl ⟨?hwz37, ?hyz37⟩) (by assumption) ?restz37
            case haz37 => (simp only [List.getElem?_toArray, List.getElem?_cons_succ, List.getElem?_cons_zero]; exact rfl)
            case hQz37 => exact fun _ _ _ h => h
            case hfz37 => kernel_rfl
            case hrz37 => kernel_rfl
            case hwz37 => rfl
            case hyz37 => (intro w hSw; (try dsimp only at hSw); obtain ⟨e0, e1, e2⟩ := FACTS.out _ hSw; go_simp; (try with_reducible rfl))
            try simp only [Act.put, List.setIfInBounds_toArray, List.set_cons_zero, List.set_cons_succ]
            refine' wpAnyH_take (i := 10) (oi := ?oiz38) (v := ?vz38) ?haz38 (by kernel_rfl) ?hfz38 ?hrz38 ?hQz38 (Or.inl ⟨?hwz38, ?hyz38⟩) (by assumption) ?restz38
            case haz38 => (simp only [List.getElem?_toArray, List.getElem?_cons_succ, List.getElem?_cons_zero]; exact rfl)
            case hQz38 => exact fun _ _ _ h => h
            case hfz38 => kernel_rfl
            case hrz38 => kernel_rfl
            case hwz38 => rfl
            case hyz38 => (intro w hSw; (try dsimp only at hSw); obtain ⟨e0, e1, e2⟩ := FACTS.out _ hSw; go_simp; (try with_reducible rfl))
            try simp only [Act.put, List.setIfInBounds_toArray, List.set_cons_zero, List.set_cons_succ]
            refine' wpAnyH_take (i := 11) (oi := ?oiz39) (v := ?vz39) ?haz39 (by kernel_rfl) ?hfz39 ?hrz39 ?hQz39 (Or.inl ⟨?hwz39, ?hyz39⟩) (by assumption) ?restz39
            case haz39 => (simp only [List.getElem?_toArray, List.getElem?_cons_succ, List.getElem?_cons_zero]; exact rfl)
            case hQz39 => exact fun _ _ _ h => h
            case hfz39 => kernel_rfl
            case hrz39 => kernel_rfl
            case hwz39 => rfl
            case hyz39 => (intro w hSw; (try dsimp only at hSw); obtain ⟨e0, e1, e2⟩ := FACTS.out _ hSw; go_simp; (try with_reducible rfl))
            try simp only [Act.put, List.setIfInBounds_toArray, List.set_cons_zero, List.set_cons_succ]
            refine' wpAnyH_take (i := 12) (oi := ?oiz40) (v := ?vz40) ?haz40 (by kernel_rfl) ?hfz40 ?hrz40 ?hQz40 (Or.inl ⟨?hwz40, ?hyz40⟩) (by assumption) ?restz40
            case haz40 => (simp only [List.getElem?_toArray, List.getElem?_cons_succ, List.getElem?_cons_zero]; exact rfl)
            case hQz40 => exact fun _ _ _ h => h
            case hfz40 => kernel_rfl
            case hrz40 => kernel_rfl
            case hwz40 => rfl
            case hyz40 => (intro w hSw; (try dsimp only at hSw); obtain ⟨e0, e1, e2⟩ := FACTS.out _ hSw; go_simp; (try with_reducible rfl))
            try simp only [Act.put, List.setIfInBounds_toArray, List.set_cons_zero, List.set_cons_succ]
            refine' wpAnyH_take (i := 13) (oi := ?oiz41) (v := ?vz41) ?haz41 (by kernel_rfl) ?hfz41 ?hrz41 ?hQz41 (Or.inl ⟨?hwz41, ?hyz41⟩) (by assumption) ?restz41
            case haz41 => (simp only [List.getElem?_toArray, List.getElem?_cons_succ, List.getElem?_cons_zero]; exact rfl)
            case hQz41 => exact fun _ _ _ h => h
            case hfz41 => kernel_rfl
            case hrz41 => kernel_rfl
            case hwz41 => rfl
            case hyz41 => (intro w hSw; (try dsimp only at hSw); obtain ⟨e0, e1, e2⟩ := FACTS.out _ hSw; go_simp; (try with_reducible rfl))
            try simp only [Act.put, List.setIfInBounds_toArray, List.set_cons_zero, List.set_cons_succ]
            refine wpAnyH_done (by kernel_rfl) ?_ _
            have F12 := Lib.hid (FACTS.out _ (Below.refl _ _).drew)
            have HM4 := Lib.hid (HM3.out.grown (Below.refl _ _).drew HP2.out); have HL4 := Lib.hid (HL3.out.grown (Below.refl _ _).drew (HP2.out i hi)); have HRV4 := Lib.hid (HRV.out.grown (Below.refl _ _).drew); have HK4 := Lib.hid (HK3.out.trans (KeepL.of_below i lab2 (Below.refl wv.heap.size wv).drew))
            clear FACTS HM3 HL3 HRV HK3
            go_wp2_with fail
            refine wp_region_held_drew (S := fun W => W.cell? ⟨bx i, 1, none⟩ = some (.map (some mb2)) ∧ W.cell? (vat vv i) = some (.int .i64 (y : Int))) (by kernel_rfl) (⟨F12.out.1, F12.out.2.1⟩) (fun hHeld => ?_)
            have BEL : Below (World.heap (World.drew wv)).size (World.drew wv) (World.drew (World.drew wv)) := (Below.refl _ _).drew
            obtain ⟨y0, hy0⟩ : ∃ y0, y0 = World.drew (World.drew wv) := ⟨_, rfl⟩
            rw [← hy0] at BEL  ⊢
            (try rw [← hy0] at hHeld)
            clear hy0
            refine' wpAnyH_take (i := 0) (oi := ?oiz42) (v := ?vz42) ?haz42 (by kernel_rfl) ?hfz42 ?hrz42 ?hQz42 (Or.inl ⟨?hwz42, ?hyz42⟩) (by assumption) ?restz42
            case haz42 => (simp only [List.getElem?_toArray, List.getElem?_cons_zero]; exact rfl)
            case hQz42 => exact fun _ _ _ h => h
            case hfz42 => kernel_rfl
            case hrz42 => kernel_rfl
            case hwz42 => rfl
            case hyz42 => (intro w hSw; (try dsimp only at hSw); obtain ⟨e0, e1⟩ := hSw; go_simp; (try with_reducible rfl))
            try simp only [Act.put, List.setIfInBounds_toArray, List.set_cons_zero, List.set_cons_succ]
            refine' wpAnyH_take (i := 1) (oi := ?oiz43) (v := ?vz43) ?haz43 (by kernel_rfl) ?hfz43 ?hrz43 ?hQz43 (Or.inl ⟨?hwz43, ?hyz43⟩) (by assumption) ?restz43
            case haz43 => (simp only [List.getElem?_toArray, List.getElem?_cons_succ, List.getElem?_cons_zero]; exact rfl)
            case hQz43 => exact fun _ _ _ h => h
            case hfz43 => kernel_rfl
            case hrz43 => kernel_rfl
            case hwz43 => rfl
            case hyz43 => (intro w hSw; (try dsimp only at hSw); obtain ⟨e0, e1⟩ := hSw; go_simp; (try with_reducible rfl))
            try simp only [Act.put, List.setIfInBounds_toArray, List.set_cons_zero, List.set_cons_succ]
            refine' wpAnyH_take (i := 2) (oi := ?oiz44) (v := ?vz44) ?haz44 (by kernel_rfl) ?hfz44 ?hrz44 ?hQz44 (Or.inl ⟨?hwz44, ?hyz44⟩) (by assumption) ?restz44
            case haz44 => (simp only [List.getElem?_toArray, List.getElem?_cons_succ, List.getElem?_cons_zero]; exact rfl)
            case hQz44 => exact fun _ _ _ h => h
            case hfz44 => kernel_rfl
            case hrz44 => kernel_rfl
            case hwz44 => rfl
            case hyz44 => (intro w hSw; (try dsimp only at hSw); obtain ⟨e0, e1⟩ := hSw; go_simp; (try with_reducible rfl))
            try simp only [Act.put, List.setIfInBounds_toArray, List.set_cons_zero, List.set_cons_succ]
            refine' wpAnyH_take (i := 3) (oi := ?oiz45) (v := ?vz45) ?haz45 (by kernel_rfl) ?hfz45 ?hrz45 ?hQz45 (Or.inl ⟨?hwz45, ?hyz45⟩) (by assumption) ?restz45
            case haz45 => (simp only [List.getElem?_toArray, List.getElem?_cons_succ, List.getElem?_cons_zero]; exact rfl)
            case hQz45 => exact fun _ _ _ h => h
            case hfz45 => kernel_rfl
            case hrz45 => kernel_rfl
            case hwz45 => rfl
            case hyz45 => (intro w hSw; (try dsimp only at hSw); obtain ⟨e0, e1⟩ := hSw; go_simp; (try with_reducible rfl))
            try simp only [Act.put, List.setIfInBounds_toArray, List.set_cons_zero, List.set_cons_succ]
            refine' wpAnyH_take (i := 4) (oi := ?oiz46) (v := ?vz46) ?haz46 (by kernel_rfl) ?hfz46 ?hrz46 ?hQz46 (Or.inl ⟨?hwz46, ?hyz46⟩) (by assumption) ?restz46
            case haz46 => (simp only [List.getElem?_toArray, List.getElem?_cons_succ, List.getElem?_cons_zero]; exact rfl)
            case hQz46 => exact fun _ _ _ h => h
            case hfz46 => kernel_rfl
            case hrz46 => kernel_rfl
            case hwz46 => rfl
            case hyz46 => (intro w hSw; (try dsimp only at hSw); obtain ⟨e0, e1⟩ := hSw; go_simp; (try with_reducible rfl))
            try simp only [Act.put, List.setIfInBounds_toArray, List.set_cons_zero, List.set_cons_succ]
            refine' wpAnyH_take (i := 5) (oi := ?oiz47) (v := ?vz47) ?haz47 (by kernel_rfl) ?hfz47 ?hrz47 ?hQz47 (Or.inl ⟨?hwz47, ?hyz47⟩) (by assumption) ?restz47
            case haz47 => (simp only [List.getElem?_toArray, List.getElem?_cons_succ, List.getElem?_cons_zero]; exact rfl)
            case hQz47 => exact fun _ _ _ h => h
            case hfz47 => kernel_rfl
            case hrz47 => kernel_rfl
            case hwz47 => rfl
            case hyz47 => (intro w hSw; (try dsimp only at hSw); obtain ⟨e0, e1⟩ := hSw; go_simp; (try with_reducible rfl))
            try simp only [Act.put, List.setIfInBounds_toArray, List.set_cons_zero, List.set_cons_succ]
            refine' wpAnyH_take (i := 6) (oi := ?oiz48) (v := ?vz48) ?haz48 (by kernel_rfl) ?hfz48 ?hrz48 ?hQz48 (Or.inl ⟨?hwz48, ?hyz48⟩) (by assumption) ?restz48
            case haz48 => (simp only [List.getElem?_toArray, List.getElem?_cons_succ, List.getElem?_cons_zero]; exact rfl)
            case hQz48 => exact fun _ _ _ h => h
            case hfz48 => kernel_rfl
            case hrz48 => kernel_rfl
            case hwz48 => rfl
            case hyz48 => (intro w hSw; (try dsimp only at hSw); obtain ⟨e0, e1⟩ := hSw; go_simp; (try with_reducible rfl))
            try simp only [Act.put, List.setIfInBounds_toArray, List.set_cons_zero, List.set_cons_succ]
            refine' wpAnyH_take (i := 7) (oi := ?oiz49) (v := ?vz49) ?haz49 (by kernel_rfl) ?hfz49 ?hrz49 ?hQz49 (Or.inl ⟨?hwz49, ?hyz49⟩) (by assumption) ?restz49
            case haz49 => (simp only [List.getElem?_toArray, List.getElem?_cons_succ, List.getElem?_cons_zero]; exact rfl)
            case hQz49 => exact fun _ _ _ h => h
            case hfz49 => kernel_rfl
            case hrz49 => kernel_rfl
            case hwz49 => rfl
            case hyz49 => (intro w hSw; (try dsimp only at hSw); obtain ⟨e0, e1⟩ := hSw; go_simp; (try with_reducible rfl))
            try simp only [Act.put, List.setIfInBounds_toArray, List.set_cons_zero, List.set_cons_succ]
            refine' wpAnyH_take (i := 8) (oi := ?oiz50) (v := ?vz50) ?haz50 (by kernel_rfl) ?hfz50 ?hrz50 ?hQz50 (Or.inl ⟨?hwz50, ?hyz50⟩) (by assumption) ?restz50
            case haz50 => (simp only [List.getElem?_toArray, List.getElem?_cons_succ, List.getElem?_cons_zero]; exact rfl)
            case hQz50 => exact fun _ _ _ h => h
            case hfz50 => kernel_rfl
            case hrz50 => kernel_rfl
            case hwz50 => rfl
            case hyz50 => (intro w hSw; (try dsimp only at hSw); obtain ⟨e0, e1⟩ := hSw; go_simp; (try with_reducible rfl))
            try simp only [Act.put, List.setIfInBounds_toArray, List.set_cons_zero, List.set_cons_succ]
            refine wpAnyH_ready (rs := [9]) (by kernel_rfl) (by simp) ?_
            refine' AllReadyH.cons (o := ?oiz71) ?haz71 (fun K hK => ?stepz71) AllReadyH.nil
            case haz71 => (simp only [List.getElem?_toArray, List.getElem?_cons_succ, List.getElem?_cons_zero]; exact rfl)

            rw [if_pos (by rfl)]
            obtain ⟨nn, hmv⟩ := HL4.out.mv
            refine step_storeG (.tmp 73) (.tmp 77) (.tmp 78) rfl rfl (hmv.below BEL) (key := .int .i64 (y : Int)) (val := vv) rfl rfl (isK_int (by omega)) ?_
            intro y9 m9 hm9 hk9 ho9 hg9
            have PM := ChM.putM (HM4.out.grown BEL HP2.out) HP2.out hi (HL4.out.grown BEL (HP2.out i hi)) (HRV4.out.grown BEL) (by rw [HVP.out.2]; exact h0) hm9 hk9 ho9 hg9
            have kc1 : y9.cell? ⟨bx i, 1, none⟩ = some (.map (some mb2)) := PM.2.2.box.cell1
            have kc2 : y9.cell? (vat vv i) = some (.int .i64 (y : Int)) := by
              rw [← HY.out]
              exact ((HRV4.out.grown BEL).1.keepL (HRV4.out.2 (by rw [HVP.out.2]; exact h0)) PM.2.1).cell HIL.out
            refine hK.out _ _ (⟨kc1, kc2⟩) (fun hHeld => ?_)
            clear hK K
            try simp only [Act.put]
            refine wpAnyH_done (by kernel_rfl) ?_ _
            have HPM := Lib.hid PM
            have HB12 := Lib.hid (KeepL.of_below i lab2 BEL)
            have HRV5 := Lib.hid (((HRV4.out.grown BEL).keep (by rw [HVP.out.2]; exact h0) PM.2.1))
            have HPS := Lib.hid (HP2.out.upd (i := i) (L := ⟨(D2 i).gs, fun z => if z = y then some v else (D2 i).rc z, (D2 i).od⟩) ⟨(HP2.out i hi).1, fun z u hz => by
              have hz2 : (if z = y then some v else (D2 i).rc z) = some u := hz
              by_cases e : z = y
              · rw [if_pos e] at hz2
                obtain rfl := Option.some.inj hz2
                rw [HVP.out.2]; exact h0
              · rw [if_neg e] at hz2; exact (HP2.out i hi).2 z u hz2⟩)
            have hB9 : B ≤ y9.heap.size := Nat.le_trans HB0.out (Nat.le_trans HK4.out.bel.size (Nat.le_trans HB12.out.bel.size HPM.out.2.1.bel.size))
            have CV9 := Lib.hid kc2
            clear PM kc1 kc2 hm9 hk9 ho9 hg9
            go_wp2_with fail
            refine wp_region_held_drew (S := fun W => W.cell? (vat vv i) = some (.int .i64 (y : Int))) (by kernel_rfl) (CV9.out) (fun hHeld => ?_)
            have BEL13 : Below (World.heap y9).size y9 (World.drew y9) := (Below.refl _ _).drew
            obtain ⟨y0, hy0⟩ : ∃ y0, y0 = World.drew y9 := ⟨_, rfl⟩
            rw [← hy0] at BEL13  ⊢
            (try rw [← hy0] at hHeld)
            clear hy0
            refine' wpAnyH_take (i := 0) (oi := ?oiz51) (v := ?vz51) ?haz51 (by kernel_rfl) ?hfz51 ?hrz51 ?hQz51 (Or.inl ⟨?hwz51, ?hyz51⟩) (by assumption) ?restz51
            case haz51 => (simp only [List.getElem?_toArray, List.getElem?_cons_zero]; exact rfl)
            case hQz51 => exact fun _ _ _ h => h
            case hfz51 => kernel_rfl
            case hrz51 => kernel_rfl
            case hwz51 => rfl
            case hyz51 => (intro w hSw; (try dsimp only at hSw); have e0 := hSw; go_simp; (try with_reducible rfl))
            try simp only [Act.put, List.setIfInBounds_toArray, List.set_cons_zero, List.set_cons_succ]
            refine' wpAnyH_take (i := 1) (oi := ?oiz52) (v := ?vz52) ?haz52 (by kernel_rfl) ?hfz52 ?hrz52 ?hQz52 (Or.inl ⟨?hwz52, ?hyz52⟩) (by assumption) ?restz52
            case haz52 => (simp only [List.getElem?_toArray, List.getElem?_cons_succ, List.getElem?_cons_zero]; exact rfl)
            case hQz52 => exact fun _ _ _ h => h
            case hfz52 => kernel_rfl
            case hrz52 => kernel_rfl
            case hwz52 => rfl
            case hyz52 => (intro w hSw; (try dsimp only at hSw); have e0 := hSw; go_simp; (try with_reducible rfl))
            try simp only [Act.put, List.setIfInBounds_toArray, List.set_cons_zero, List.set_cons_succ]
            refine' wpAnyH_take (i := 2) (oi := ?oiz53) (v := ?vz53) ?haz53 (by kernel_rfl) ?hfz53 ?hrz53 ?hQz53 (Or.inl ⟨?hwz53, ?hyz53⟩) (by assumption) ?restz53
            case haz53 => (simp only [List.getElem?_toArray, List.getElem?_cons_succ, List.getElem?_cons_zero]; exact rfl)
            case hQz53 => exact fun _ _ _ h => h
            case hfz53 => kernel_rfl
            case hrz53 => kernel_rfl
            case hwz53 => rfl
            case hyz53 => (intro w hSw; (try dsimp only at hSw); have e0 := hSw; go_simp; (try with_reducible rfl))
            try simp only [Act.put, List.setIfInBounds_toArray, List.set_cons_zero, List.set_cons_succ]
            refine' wpAnyH_take (i := 3) (oi := ?oiz54) (v := ?vz54) ?haz54 (by kernel_rfl) ?hfz54 ?hrz54 ?hQz54 (Or.inl ⟨?hwz54, ?hyz54⟩) (by assumption) ?restz54
            case haz54 => (simp only [List.getElem?_toArray, List.getElem?_cons_succ, List.getElem?_cons_zero]; exact rfl)
            case hQz54 => exact fun _ _ _ h => h
            case hfz54 => kernel_rfl
            case hrz54 => kernel_rfl
            case hwz54 => rfl
            case hyz54 => (intro w hSw; (try dsimp only at hSw); have e0 := hSw; go_simp; (try with_reducible rfl))
            try simp only [Act.put, List.setIfInBounds_toArray, List.set_cons_zero, List.set_cons_succ]
            refine' wpAnyH_take (i := 5) (oi := ?oiz55) (v := ?vz55) ?haz55 (by kernel_rfl) ?hfz55 ?hrz55 ?hQz55 (Or.inl ⟨?hwz55, ?hyz55⟩) (by assumption) ?restz55
            case haz55 => (simp only [List.getElem?_toArray, List.getElem?_cons_succ, List.getElem?_cons_zero]; exact rfl)
            case hQz55 => exact fun _ _ _ h => h
            case hfz55 => kernel_rfl
            case hrz55 => kernel_rfl
            case hwz55 => rfl
            case hyz55 => (intro w hSw; (try dsimp only at hSw); have e0 := hSw; go_simp; (try with_reducible rfl))
            try simp only [Act.put, List.setIfInBounds_toArray, List.set_cons_zero, List.set_cons_succ]
            refine' wpAnyH_take (i := 6) (oi := ?oiz56) (v := ?vz56) ?haz56 (by kernel_rfl) ?hfz56 ?hrz56 ?hQz56 (Or.inl ⟨?hwz56, ?hyz56⟩) (by assumption) ?restz56
            case haz56 => (simp only [List.getElem?_toArray, List.getElem?_cons_succ, List.getElem?_cons_zero]; exact rfl)
            case hQz56 => exact fun _ _ _ h => h
            case hfz56 => kernel_rfl
            case hrz56 => kernel_rfl
            case hwz56 => rfl
            case hyz56 => (intro w hSw; (try dsimp only at hSw); have e0 := hSw; go_simp; (try with_reducible rfl))
            try simp only [Act.put, List.setIfInBounds_toArray, List.set_cons_zero, List.set_cons_succ]
            refine' wpAnyH_take (i := 7) (oi := ?oiz57) (v := ?vz57) ?haz57 (by kernel_rfl) ?hfz57 ?hrz57 ?hQz57 (Or.inl ⟨?hwz57, ?hyz57⟩) (by assumption) ?restz57
            case haz57 => (simp only [List.getElem?_toArray, List.getElem?_cons_succ, List.getElem?_cons_zero]; exact rfl)
            case hQz57 => exact fun _ _ _ h => h
            case hfz57 => kernel_rfl
            case hrz57 => kernel_rfl
            case hwz57 => rfl
            case hyz57 => (intro w hSw; (try dsimp only at hSw); have e0 := hSw; go_simp; (try with_reducible rfl))
            try simp only [Act.put, List.setIfInBounds_toArray, List.set_cons_zero, List.set_cons_succ]
            refine' wpAnyH_take (i := 8) (oi := ?oiz58) (v := ?vz58) ?haz58 (by kernel_rfl) ?hfz58 ?hrz58 ?hQz58 (Or.inl ⟨?hwz58, ?hyz58⟩) (by assumption) ?restz58
            case haz58 => (simp only [List.getElem?_toArray, List.getElem?_cons_succ, List.getElem?_cons_zero]; exact rfl)
            case hQz58 => exact fun _ _ _ h => h
            case hfz58 => kernel_rfl
            case hrz58 => kernel_rfl
            case hwz58 => rfl
            case hyz58 => (intro w hSw; (try dsimp only at hSw); have e0 := hSw; go_simp; (try with_reducible rfl))
            try simp only [Act.put, List.setIfInBounds_toArray, List.set_cons_zero, List.set_cons_succ]
            refine wpAnyH_ready (rs := [4, 9]) (by kernel_rfl) (by simp) ?_
            refine' AllReadyH.cons (o := ?oiz69) ?haz69 (fun K hK => ?stepz69) (AllReadyH.cons (o := ?oiz70) ?haz70 (fun K hK => ?stepz70) AllReadyH.nil)
            case haz69 => (simp only [List.getElem?_toArray, List.getElem?_cons_succ, List.getElem?_cons_zero]; exact rfl)
            case haz70 => (simp only [List.getElem?_toArray, List.getElem?_cons_succ, List.getElem?_cons_zero]; exact rfl)
            case stepz69 =>
              have aa0 := Tri.cell2 ((BEL13.block _ HPM.out.2.2.box.lt).trans HPM.out.2.2.box)
              go_simp

              clear aa0
              refine hK.out _ _ (by rw [← HY.out]; exact ((HRV5.out.grown BEL13).1).cell HIL.out) (fun hHeld => ?_)
              clear hK K
              try simp only [Act.put, List.setIfInBounds_toArray, List.set_cons_zero, List.set_cons_succ]
              refine wpAnyH_ready (rs := [9]) (by kernel_rfl) (by simp) ?_
              refine' AllReadyH.cons (o := ?oiz63) ?haz63 (fun K hK => ?stepz63) AllReadyH.nil
              case haz63 => (simp only [List.getElem?_toArray, List.getElem?_cons_succ, List.getElem?_cons_zero]; exact rfl)
              go_simp
              obtain ⟨y1, hy1⟩ : ∃ y1, y1 = World.alloc y0 (.cells #[.int .i64 (y : Int)] 3) := ⟨_, rfl⟩
              rw [← hy1]
              have sb : Below (World.heap y0).size y0 y1 := by rw [hy1]; exact (Below.refl _ _).alloc (Nat.le_refl _) _
              have HY12 := Lib.hid hy1
              have BW12 := Lib.hid BEL13

              clear hy1
              replace BEL13 := Below.chain BEL13 sb
              clear sb
              refine hK.out _ _ (by rw [← HY.out]; exact ((HRV5.out.grown BEL13).1).cell HIL.out) (fun hHeld => ?_)
              clear hK K
              try simp only [Act.put, List.setIfInBounds_toArray, List.set_cons_zero, List.set_cons_succ]
              refine wpAnyH_ready (rs := [10]) (by kernel_rfl) (by simp) ?_
              refine' AllReadyH.cons (o := ?oiz62) ?haz62 (fun K hK => ?stepz62) AllReadyH.nil
              case haz62 => (simp only [List.getElem?_toArray, List.getElem?_cons_succ, List.getElem?_cons_zero]; exact rfl)

              rw [if_pos (by rfl)]
              refine step_pushI (.tmp 83) (.tmp 88) HY12.out rfl rfl rfl (HPM.out.2.2.oo.below BW12.out) (Nat.le_trans hB9 BW12.out.size) (by rw [List.length_map]; have h1 := HLV.out.od_le; show (D2 i).od.length ≤ _; omega) ?_
              intro v9 z9 ho9 hg9 hr9
              have s9 := ho9.isSl
              have LM := HPM.out.2.2.grown BW12.out ⟨(HP2.out i hi).1, fun z u hz => by
                have h1 := (HPS.out i hi).2 z u
                rw [updC_same] at h1
                exact h1 hz⟩
              have LM2 := LM
              rw [show (⟨(D2 i).gs, fun z => if z = y then some v else (D2 i).rc z, (D2 i).od⟩ : Lv) = updC D2 i ⟨(D2 i).gs, fun z => if z = y then some v else (D2 i).rc z, (D2 i).od⟩ i from (updC_same _ _ _).symm] at LM2
              have PO := ChM.pushO (x := y) (HPM.out.1.grown BW12.out HPS.out) HPS.out hi LM2 (by rw [updC_same]; exact ho9) hg9 hr9
              have kc9 : z9.cell? (vat vv i) = some (.int .i64 (y : Int)) := by
                rw [← HY.out]
                have hi9 : Ints z9 vv v := Go.Sl.Sl.of_block (HRV5.out.1.below BW12.out) fun hl => hg9.block _ hl fun e => by
                  have h1 := LM.lo _ e.symm
                  rw [HRV5.out.2 (by rw [HVP.out.2]; exact h0)] at h1; omega
                exact hi9.cell HIL.out
              have k9 : Tri z9 (bx i) gv (.map (some mb2)) ov2 := (hg9.block _ LM.box.lt fun e => by have h1 := LM.lo _ e.symm; rw [LM.lb] at h1; omega).trans LM.box
              have kc10 : (z9.setCell ⟨bx i, 2, none⟩ v9).cell? (vat vv i) = some (.int .i64 (y : Int)) := by
                rw [← HY.out]
                exact ((HRV5.out.grown BW12.out).1.keepL (HRV5.out.2 (by rw [HVP.out.2]; exact h0)) PO.2.1).cell HIL.out
              refine hK.out _ _ (kc9) (fun hHeld => ?_)
              clear hK K
              try simp only [Act.put, List.setIfInBounds_toArray, List.set_cons_zero, List.set_cons_succ]
              refine' wpAnyH_take (i := 11) (oi := ?oiz59) (v := ?vz59) ?haz59 (by kernel_rfl) ?hfz59 ?hrz59 ?hQz59 (Or.inl ⟨?hwz59, ?hyz59⟩) (by assumption) ?restz59
              case haz59 => (simp only [List.getElem?_toArray, List.getElem?_cons_succ, List.getElem?_cons_zero]; exact rfl)
              case hQz59 => exact fun _ _ _ h => h
              case hfz59 => kernel_rfl
              case hrz59 => kernel_rfl
              case hwz59 => rfl
              case hyz59 => (intro w hSw; (try dsimp only at hSw); have e0 := hSw; go_simp; (try with_reducible rfl))
              try simp only [Act.put, List.setIfInBounds_toArray, List.set_cons_zero, List.set_cons_succ]
              refine' wpAnyH_take (i := 12) (oi := ?oiz60) (v := ?vz60) ?haz60 (by kernel_rfl) ?hfz60 ?hrz60 ?hQz60 (Or.inl ⟨?hwz60, ?hyz60⟩) (by assumption) ?restz60
              case haz60 => (simp only [List.getElem?_toArray, List.getElem?_cons_succ, List.getElem?_cons_zero]; exact rfl)
              case hQz60 => exact fun _ _ _ h => h
              case hfz60 => kernel_rfl
              case hrz60 => kernel_rfl
              case hwz60 => rfl
              case hyz60 => (intro w hSw; (try dsimp only at hSw); have e0 := hSw; go_simp; (try with_reducible rfl))
              try simp only [Act.put, List.setIfInBounds_toArray, List.set_cons_zero, List.set_cons_succ]
              refine wpAnyH_ready (rs := [13]) (by kernel_rfl) (by simp) ?_
              refine' AllReadyH.cons (o := ?oiz61) ?haz61 (fun K hK => ?stepz61) AllReadyH.nil
              case haz61 => (simp only [List.getElem?_toArray, List.getElem?_cons_succ, List.getElem?_cons_zero]; exact rfl)
              have f0 := k9.free 2; have b0 := k9.cell2
              go_simp

              clear f0 b0
              refine hK.out _ _ (kc10) (fun hHeld => ?_)
              clear hK K
              try simp only [Act.put, List.setIfInBounds_toArray, List.set_cons_zero, List.set_cons_succ]
              refine wpAnyH_done (by kernel_rfl) ?_ _
              rw [reach_eq] at PO
              have hL6 := PO.2.2
              rw [show (⟨(updC D2 i ⟨(D2 i).gs, fun z => if z = y then some v else (D2 i).rc z, (D2 i).od⟩ i).gs, (updC D2 i ⟨(D2 i).gs, fun z => if z = y then some v else (D2 i).rc z, (D2 i).od⟩ i).rc, (updC D2 i ⟨(D2 i).gs, fun z => if z = y then some v else (D2 i).rc z, (D2 i).od⟩ i).od ++ [y]⟩ : Lv) = updC D2 i (reachG (D2 i) y v) i from by rw [updC_same, updC_same]; rfl] at hL6
              have hnw := HCP2.out.new (by omega) hi HKD.out HQG.out (u := u) (by rw [HXX.out]; exact HU.out) (by rw [HGQ.out, HV.out, HY.out, Int.toNat_natCast]; exact HRC.out)
              rw [HGQ.out, HV.out, HY.out, Int.toNat_natCast] at hnw
              have hP6 : PosC n (updC D2 i (reachG (D2 i) y v)) := HP2.out.upd (i := i) ⟨(HP2.out i hi).1, fun z u hz => by
                have h1 := (HPS.out i hi).2 z u
                rw [updC_same] at h1
                exact h1 hz⟩
              have hK6 := HK4.out.trans (HB12.out.trans (HPM.out.2.1.trans ((KeepL.of_below i lab2 BW12.out).trans PO.2.1)))
              have hk6 : k < (updC D2 i (reachG (D2 i) y v) i).od.length := by
                rw [updC_same]
                show k < ((D2 i).od ++ [y]).length
                rw [List.length_append]; have h1 := HKD.out; omega
              have HR := Lib.hid (show Compl n i C (updC D2 i (reachG (D2 i) y v)) k (q + 1) ∧ k < (updC D2 i (reachG (D2 i) y v) i).od.length ∧ ChM (labN lab2 v9 (4 * i + 4)) (z9.setCell ⟨bx i, 2, none⟩ v9) B n cv bx (updC D2 i (reachG (D2 i) y v)) ∧ LvM (labN lab2 v9 (4 * i + 4)) (z9.setCell ⟨bx i, 2, none⟩ v9) B i (updC D2 i (reachG (D2 i) y v) i) (bx i) mb2 gv v9 gvs m9 ∧ KeepL i lab (labN lab2 v9 (4 * i + 4)) w (z9.setCell ⟨bx i, 2, none⟩ v9) ∧ PosC n (updC D2 i (reachG (D2 i) y v)) from ⟨hnw, hk6, PO.1, hL6, hK6, hP6⟩)
              clear PO hL6 hnw hP6 hK6 hk6 kc9 kc10 k9 LM LM2 ho9 hg9 hr9
              go_wp2_with fail
              go_roundw
              case rel => exact ⟨q + 1, _, _, mb2, v9, m9, by go_num, by omega, HR.out⟩
              case measure => (simp [intOf]; try omega)
            case stepz70 =>
              go_simp
              obtain ⟨y3, hy3⟩ : ∃ y3, y3 = World.alloc y0 (.cells #[.int .i64 (y : Int)] 3) := ⟨_, rfl⟩
              rw [← hy3]
              have sb : Below (World.heap y0).size y0 y3 := by rw [hy3]; exact (Below.refl _ _).alloc (Nat.le_refl _) _
              have HY12 := Lib.hid hy3
              have BW12 := Lib.hid BEL13

              clear hy3
              replace BEL13 := Below.chain BEL13 sb
              clear sb
              refine hK.out _ _ (by rw [← HY.out]; exact ((HRV5.out.grown BEL13).1).cell HIL.out) (fun hHeld => ?_)
              clear hK K
              try simp only [Act.put, List.setIfInBounds_toArray, List.set_cons_zero, List.set_cons_succ]
              refine wpAnyH_ready (rs := [4]) (by kernel_rfl) (by simp) ?_
              refine' AllReadyH.cons (o := ?oiz68) ?haz68 (fun K hK => ?stepz68) AllReadyH.nil
              case haz68 => (simp only [List.getElem?_toArray, List.getElem?_cons_succ, List.getElem?_cons_zero]; exact rfl)
              have aa0 := Tri.cell2 ((BEL13.block _ HPM.out.2.2.box.lt).trans HPM.out.2.2.box)
              go_simp

              clear aa0
              refine hK.out _ _ (by rw [← HY.out]; exact ((HRV5.out.grown BEL13).1).cell HIL.out) (fun hHeld => ?_)
              clear hK K
              try simp only [Act.put, List.setIfInBounds_toArray, List.set_cons_zero, List.set_cons_succ]
              refine wpAnyH_ready (rs := [10]) (by kernel_rfl) (by simp) ?_
              refine' AllReadyH.cons (o := ?oiz67) ?haz67 (fun K hK => ?stepz67) AllReadyH.nil
              case haz67 => (simp only [List.getElem?_toArray, List.getElem?_cons_succ, List.getElem?_cons_zero]; exact rfl)

              rw [if_pos (by rfl)]
              refine step_pushI (.tmp 83) (.tmp 88) HY12.out rfl rfl rfl (HPM.out.2.2.oo.below BW12.out) (Nat.le_trans hB9 BW12.out.size) (by rw [List.length_map]; have h1 := HLV.out.od_le; show (D2 i).od.length ≤ _; omega) ?_
              intro v9 z9 ho9 hg9 hr9
              have s9 := ho9.isSl
              have LM := HPM.out.2.2.grown BW12.out ⟨(HP2.out i hi).1, fun z u hz => by
                have h1 := (HPS.out i hi).2 z u
                rw [updC_same] at h1
                exact h1 hz⟩
              have LM2 := LM
              rw [show (⟨(D2 i).gs, fun z => if z = y then some v else (D2 i).rc z, (D2 i).od⟩ : Lv) = updC D2 i ⟨(D2 i).gs, fun z => if z = y then some v else (D2 i).rc z, (D2 i).od⟩ i from (updC_same _ _ _).symm] at LM2
              have PO := ChM.pushO (x := y) (HPM.out.1.grown BW12.out HPS.out) HPS.out hi LM2 (by rw [updC_same]; exact ho9) hg9 hr9
              have kc9 : z9.cell? (vat vv i) = some (.int .i64 (y : Int)) := by
                rw [← HY.out]
                have hi9 : Ints z9 vv v := Go.Sl.Sl.of_block (HRV5.out.1.below BW12.out) fun hl => hg9.block _ hl fun e => by
                  have h1 := LM.lo _ e.symm
                  rw [HRV5.out.2 (by rw [HVP.out.2]; exact h0)] at h1; omega
                exact hi9.cell HIL.out
              have k9 : Tri z9 (bx i) gv (.map (some mb2)) ov2 := (hg9.block _ LM.box.lt fun e => by have h1 := LM.lo _ e.symm; rw [LM.lb] at h1; omega).trans LM.box
              have kc10 : (z9.setCell ⟨bx i, 2, none⟩ v9).cell? (vat vv i) = some (.int .i64 (y : Int)) := by
                rw [← HY.out]
                exact ((HRV5.out.grown BW12.out).1.keepL (HRV5.out.2 (by rw [HVP.out.2]; exact h0)) PO.2.1).cell HIL.out
              refine hK.out _ _ (kc9) (fun hHeld => ?_)
              clear hK K
              try simp only [Act.put, List.setIfInBounds_toArray, List.set_cons_zero, List.set_cons_succ]
              refine' wpAnyH_take (i := 11) (oi := ?oiz64) (v := ?vz64) ?haz64 (by kernel_rfl) ?hfz64 ?hrz64 ?hQz64 (Or.inl ⟨?hwz64, ?hyz64⟩) (by assumption) ?restz64
              case haz64 => (simp only [List.getElem?_toArray, List.getElem?_cons_succ, List.getElem?_cons_zero]; exact rfl)
              case hQz64 => exact fun _ _ _ h => h
              case hfz64 => kernel_rfl
              case hrz64 => kernel_rfl
              case hwz64 => rfl
              case hyz64 => (intro w hSw; (try dsimp only at hSw); have e0 := hSw; go_simp; (try with_reducible rfl))
              try simp only [Act.put, List.setIfInBounds_toArray, List.set_cons_zero, List.set_cons_succ]
              refine' wpAnyH_take (i := 12) (oi := ?oiz65) (v := ?vz65) ?haz65 (by kernel_rfl) ?hfz65 ?hrz65 ?hQz65 (Or.inl ⟨?hwz65, ?hyz65⟩) (by assumption) ?restz65
              case haz65 => (simp only [List.getElem?_toArray, List.getElem?_cons_succ, List.getElem?_cons_zero]; exact rfl)
              case hQz65 => exact fun _ _ _ h => h
              case hfz65 => kernel_rfl
              case hrz65 => kernel_rfl
              case hwz65 => rfl
              case hyz65 => (intro w hSw; (try dsimp only at hSw); have e0 := hSw; go_simp; (try with_reducible rfl))
              try simp only [Act.put, List.setIfInBounds_toArray, List.set_cons_zero, List.set_cons_succ]
              refine wpAnyH_ready (rs := [13]) (by kernel_rfl) (by simp) ?_
              refine' AllReadyH.cons (o := ?oiz66) ?haz66 (fun K hK => ?stepz66) AllReadyH.nil
              case haz66 => (simp only [List.getElem?_toArray, List.getElem?_cons_succ, List.getElem?_cons_zero]; exact rfl)
              have f0 := k9.free 2; have b0 := k9.cell2
              go_simp

              clear f0 b0
              refine hK.out _ _ (kc10) (fun hHeld => ?_)
              clear hK K
              try simp only [Act.put, List.setIfInBounds_toArray, List.set_cons_zero, List.set_cons_succ]
              refine wpAnyH_done (by kernel_rfl) ?_ _
              rw [reach_eq] at PO
              have hL6 := PO.2.2
              rw [show (⟨(updC D2 i ⟨(D2 i).gs, fun z => if z = y then some v else (D2 i).rc z, (D2 i).od⟩ i).gs, (updC D2 i ⟨(D2 i).gs, fun z => if z = y then some v else (D2 i).rc z, (D2 i).od⟩ i).rc, (updC D2 i ⟨(D2 i).gs, fun z => if z = y then some v else (D2 i).rc z, (D2 i).od⟩ i).od ++ [y]⟩ : Lv) = updC D2 i (reachG (D2 i) y v) i from by rw [updC_same, updC_same]; rfl] at hL6
              have hnw := HCP2.out.new (by omega) hi HKD.out HQG.out (u := u) (by rw [HXX.out]; exact HU.out) (by rw [HGQ.out, HV.out, HY.out, Int.toNat_natCast]; exact HRC.out)
              rw [HGQ.out, HV.out, HY.out, Int.toNat_natCast] at hnw
              have hP6 : PosC n (updC D2 i (reachG (D2 i) y v)) := HP2.out.upd (i := i) ⟨(HP2.out i hi).1, fun z u hz => by
                have h1 := (HPS.out i hi).2 z u
                rw [updC_same] at h1
                exact h1 hz⟩
              have hK6 := HK4.out.trans (HB12.out.trans (HPM.out.2.1.trans ((KeepL.of_below i lab2 BW12.out).trans PO.2.1)))
              have hk6 : k < (updC D2 i (reachG (D2 i) y v) i).od.length := by
                rw [updC_same]
                show k < ((D2 i).od ++ [y]).length
                rw [List.length_append]; have h1 := HKD.out; omega
              have HR := Lib.hid (show Compl n i C (updC D2 i (reachG (D2 i) y v)) k (q + 1) ∧ k < (updC D2 i (reachG (D2 i) y v) i).od.length ∧ ChM (labN lab2 v9 (4 * i + 4)) (z9.setCell ⟨bx i, 2, none⟩ v9) B n cv bx (updC D2 i (reachG (D2 i) y v)) ∧ LvM (labN lab2 v9 (4 * i + 4)) (z9.setCell ⟨bx i, 2, none⟩ v9) B i (updC D2 i (reachG (D2 i) y v) i) (bx i) mb2 gv v9 gvs m9 ∧ KeepL i lab (labN lab2 v9 (4 * i + 4)) w (z9.setCell ⟨bx i, 2, none⟩ v9) ∧ PosC n (updC D2 i (reachG (D2 i) y v)) from ⟨hnw, hk6, PO.1, hL6, hK6, hP6⟩)
              clear PO hL6 hnw hP6 hK6 hk6 kc9 kc10 k9 LM LM2 ho9 hg9 hr9
              go_wp2_with fail
              go_roundw
              case rel => exact ⟨q + 1, _, _, mb2, v9, m9, by go_num, by omega, HR.out⟩
              case measure => (simp [intOf]; try omega)
        · obtain rfl : q = G := by omega
          have hcp2 := hcp
          have eG : (D2 i).gs.length = q := by rw [← hL.gl, HGG.out]
          rw [← eG] at hcp2
          have hrow := hcp2.row hkD
          have HR := Lib.hid (show k + 1 ≤ (D2 i).od.length ∧ Compl n i C D2 (k + 1) 0 ∧ ChM lab2 wi B n cv bx D2 ∧ LvM lab2 wi B i (D2 i) (bx i) mb2 gv ov2 gvs m2 ∧ KeepL i lab lab2 w wi ∧ PosC n D2 from ⟨hkD, hrow, hM, hL, hK, hpos⟩)
          have hod2 := (hcp.half.lv i (Nat.le_refl _) hi).od_le
          clear hcp hcp2 hM hL hK hpos hrow eG
          go_wp2_with fail
          go_roundw
          case rel => exact ⟨k + 1, lab2, D2, mb2, gv, ov2, gvs, m2, by go_num, HR.out⟩
          case measure => (simp [intOf]; try omega)
    · obtain rfl : k = N := by omega
      have hres : CompRes n i C D := Compl.res hi (by rw [HNN.out]; exact HCP.out)
      have HR := Lib.hid (show ChM lab1 wr B n cv bx D ∧ CompRes n i C D ∧ KeepL i lab lab1 w wr from ⟨HMR.out, hres, HKR.out⟩)
      clear hres
      go_wp2_with fail
      first
      | exact bodyPost_end (v := .tuple #[]) (by simp [results, Try.results152, go_sem]) rfl ⟨rfl, lab1, D, HR.out⟩
      | exact bodyPost_ret (v := .tuple #[]) (by simp [results, Try.results152, go_sem]) rfl ⟨rfl, lab1, D, HR.out⟩
end Go.Proofs.Ytplekfgadbjgdaa


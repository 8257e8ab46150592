/- permgroup.sift walked: what remains of an element, and the level at which it stops. -/
import Derived.Test.YtplekfgadbjgdaaQGroupOrbitStabilizer0
import Derived.Test.YtplekfgadbjgdaaQGroupOrbitStabilizer1
import Derived.Test.YtplekfgadbjgdaaQGroupOrbitStabilizer2
import Derived.Test.YtplekfgadbjgdaaQGroupOrbitStabilizer5
import Derived.Test.YtplekfgadbjgdaaQGroupOrbitStabilizer8
import Derived.Test.YtplekfgadbjgdaaQGroupOrbitStabilizer11
import Derived.Test.YtplekfgadbjgdaaQGroupOrbitStabilizer13
import Derived.Deep.RegionHeld3
namespace Go.Proofs.Ytplekfgadbjgdaa
open Go.RowKit Go.Sl Go.Mp Go.Maps

/-- What the levels' rows are: none is empty. -/
def PosC (n : Nat) (C : Nat → Lv) : Prop := ∀ j, j < n → (∀ g ∈ (C j).gs, 0 < g.length) ∧ ∀ x u, (C j).rc x = some u → 0 < u.length
theorem sl_ptr {w : World} {cv : Value} {n : Nat} {bx : Nat → Nat} (h : Go.Sl.Sl w cv 1 ((List.range n).map fun j => .pointer (some ⟨bx j, 0, none⟩))) {d : Nat} (hd : d < n) : w.cell? (vat cv d) = some (.pointer (some ⟨bx d, 0, none⟩)) := by
  have := h.cell (j := d) (by simpa using hd)
  simpa using this
theorem sl_len {w : World} {cv : Value} {n : Nat} {bx : Nat → Nat} (h : Go.Sl.Sl w cv 1 ((List.range n).map fun j => .pointer (some ⟨bx j, 0, none⟩))) : vlen cv = n := by
  have := h.2.1
  simp at this; omega

set_option maxHeartbeats 4000000 in
set_option maxRecDepth 100000 in
theorem sift_calls (n B : Nat) (lab : Nat → Nat) (cv : Value) (bx : Nat → Nat) (C : Nat → Lv) (i : Nat) (pv : Value) (p : List Int) (w : World) (hM : ChM lab w B n cv bx C) (hpos : PosC n C) (hC : ∀ j, i ≤ j → j < n → LvG n j (C j)) (hp : RowL lab w pv p) (hP : Pm n p) (hf : ∀ x, x < i → Fixes p x) (hi : i ≤ n) (hn : n ≤ 9) :
    Calls Try.prog 86 #[cv, pv, .int .i64 i] w fun e w' => ∃ p' i' pv', e = .returned (.tuple #[pv', .int .i64 (i' : Nat)]) ∧ RowL lab w' pv' p' ∧ Sifted n C i p i' p' ∧ (i' < n → (C i').rc (nth p' i').toNat = none) ∧ Below w.heap.size w w' := by
  have scv := hM.cs.1
  have lcv := sl_len hM.cs
  have sp := hp.1.isSl
  have HM := Lib.hid hM; have HC := Lib.hid hC; have HP := Lib.hid hp; have HPP := Lib.hid hP; have HF := Lib.hid hf; have HPOS := Lib.hid hpos
  clear hM hC hp hP hf hpos
  go_enter Try.func86, Try.ntmps86
  go_wp2_with fail
  go_loopw [1, 2] (fun q s wr => ∃ (d : Nat) (p1 : List Int), s = .int .i64 d ∧ d ≤ n ∧ RowL lab wr q p1 ∧ Sifted n C i p d p1 ∧ Below w.heap.size w wr) (fun _ s _ => n - (intOf s).toNat)
  case atStart => exact ⟨i, p, rfl, hi, HP.out, sifted_start HPP.out hi HF.out, Below.refl _ _⟩
  case round =>
    obtain ⟨d, p1, rfl, hdn, hp1, hsf, hbr⟩ := hrel
    have sq := hp1.1.isSl
    by_cases hlt : d < n
    · have h0 : 0 < n := by omega
      have hMr := HM.out.grown hbr HPOS.out
      obtain ⟨mb, gv, ov, gvs, m, hL⟩ := hMr.lv d hlt
      have hP1 := hsf.pm
      have hr := hP1.rng hlt
      obtain ⟨x, hx⟩ : ∃ x : Nat, nth p1 d = (x : Int) := ⟨(nth p1 d).toNat, by omega⟩
      have hxn : x < n := by omega
      have lq := hp1.1.len
      rw [hP1.2] at lq
      obtain ⟨nn, hmv⟩ := hL.mv
      have hdl : d < p1.length := by rw [hP1.2]; exact hlt
      have FACTS := Lib.hid (show ∀ W, Below wr.heap.size wr W → W.cell? (vat cv d) = some (.pointer (some ⟨bx d, 0, none⟩)) ∧ W.cell? ⟨bx d, 1, none⟩ = some (.map (some mb)) ∧ W.cell? (vat u1 d) = some (.int .i64 x) ∧ (Instr.lookup 133 (.map (some mb)) (.int .i64 x) true).run Try.prog W = .ok (.tuple #[(m (.int .i64 x)).getD (.slice none 0 0), .bool (m (.int .i64 x)).isSome]) W from fun W hb => ⟨sl_ptr (hMr.cs.below hb) hlt, Tri.cell1 ((hb.block _ hL.box.lt).trans hL.box), by rw [← hx]; exact (hp1.1.below hb).cell hdl, by
        have := (hmv.below hb).look true gkey Try.underlying133 (zero_ints W) (isK_int (x := x) (by omega))
        simpa using this⟩)
      have HL := Lib.hid hL; have HSF := Lib.hid hsf; have HB := Lib.hid hbr; have HP1 := Lib.hid hp1; have HX := Lib.hid hx; have HMR := Lib.hid hMr
      have hCd := HC.out d hsf.le hlt
      have HCD := Lib.hid hCd
      clear hL hsf hbr hp1 hx hmv hMr hCd hP1 hdl
      cases hrc : (C d).rc x with
      | none =>
        have hmn := HL.out.mn x hrc
        rw [hmn] at FACTS
        have HRC := Lib.hid hrc
        clear hrc hmn
        go_wp2_with fail
        refine wp_region_held_drew (S := fun W => Below wr.heap.size wr W) (by kernel_rfl) ((Below.refl _ _).drew) (fun hHeld => ?_)
        refine' wpAnyH_take (i := 0) (oi := ?oiz1) (v := ?vz1) ?haz1 (by kernel_rfl) ?hfz1 ?hrz1 ?hQz1 (Or.inl ⟨?hwz1, ?hyz1⟩) (by assumption) ?restz1
        case haz1 => (simp only [List.getElem?_toArray, List.getElem?_cons_zero]; exact rfl)
        case hQz1 => exact fun _ _ _ h => h
        case hfz1 => kernel_rfl
        case hrz1 => kernel_rfl
        case hwz1 => rfl
        case hyz1 => (intro w hSw; (try dsimp only at hSw); obtain ⟨e0, e1, e2, e3⟩ := FACTS.out _ hSw; go_simp; (try with_reducible rfl))
        try simp only [Act.put, List.setIfInBounds_toArray, List.set_cons_zero, List.set_cons_succ]
        refine' wpAnyH_take (i := 1) (oi := ?oiz2) (v := ?vz2) ?haz2 (by kernel_rfl) ?hfz2 ?hrz2 ?hQz2 (Or.inl ⟨?hwz2, ?hyz2⟩) (by assumption) ?restz2
        case haz2 => (simp only [List.getElem?_toArray, List.getElem?_cons_succ, List.getElem?_cons_zero]; exact rfl)
        case hQz2 => exact fun _ _ _ h => h
        case hfz2 => kernel_rfl
        case hrz2 => kernel_rfl
        case hwz2 => rfl
        case hyz2 => (intro w hSw; (try dsimp only at hSw); obtain ⟨e0, e1, e2, e3⟩ := FACTS.out _ hSw; go_simp; (try with_reducible rfl))
        try simp only [Act.put, List.setIfInBounds_toArray, List.set_cons_zero, List.set_cons_succ]
        refine' wpAnyH_take (i := 2) (oi := ?oiz3) (v := ?vz3) ?haz3 (by kernel_rfl) ?hfz3 ?hrz3 ?hQz3 (Or.inl ⟨?hwz3, ?hyz3⟩) (by assumption) ?restz3
        case haz3 => (simp only [List.getElem?_toArray, List.getElem?_cons_succ, List.getElem?_cons_zero]; exact rfl)
        case hQz3 => exact fun _ _ _ h => h
        case hfz3 => kernel_rfl
        case hrz3 => kernel_rfl
        case hwz3 => rfl
        case hyz3 => (intro w hSw; (try dsimp only at hSw); obtain ⟨e0, e1, e2, e3⟩ := FACTS.out _ hSw; go_simp; (try with_reducible rfl))
        try simp only [Act.put, List.setIfInBounds_toArray, List.set_cons_zero, List.set_cons_succ]
        refine' wpAnyH_take (i := 3) (oi := ?oiz4) (v := ?vz4) ?haz4 (by kernel_rfl) ?hfz4 ?hrz4 ?hQz4 (Or.inl ⟨?hwz4, ?hyz4⟩) (by assumption) ?restz4
        case haz4 => (simp only [List.getElem?_toArray, List.getElem?_cons_succ, List.getElem?_cons_zero]; exact rfl)
        case hQz4 => exact fun _ _ _ h => h
        case hfz4 => kernel_rfl
        case hrz4 => kernel_rfl
        case hwz4 => rfl
        case hyz4 => (intro w hSw; (try dsimp only at hSw); obtain ⟨e0, e1, e2, e3⟩ := FACTS.out _ hSw; go_simp; (try with_reducible rfl))
        try simp only [Act.put, List.setIfInBounds_toArray, List.set_cons_zero, List.set_cons_succ]
        refine' wpAnyH_take (i := 4) (oi := ?oiz5) (v := ?vz5) ?haz5 (by kernel_rfl) ?hfz5 ?hrz5 ?hQz5 (Or.inl ⟨?hwz5, ?hyz5⟩) (by assumption) ?restz5
        case haz5 => (simp only [List.getElem?_toArray, List.getElem?_cons_succ, List.getElem?_cons_zero]; exact rfl)
        case hQz5 => exact fun _ _ _ h => h
        case hfz5 => kernel_rfl
        case hrz5 => kernel_rfl
        case hwz5 => rfl
        case hyz5 => (intro w hSw; (try dsimp only at hSw); obtain ⟨e0, e1, e2, e3⟩ := FACTS.out _ hSw; go_simp; (try with_reducible rfl))
        try simp only [Act.put, List.setIfInBounds_toArray, List.set_cons_zero, List.set_cons_succ]
        refine' wpAnyH_take (i := 5) (oi := ?oiz6) (v := ?vz6) ?haz6 (by kernel_rfl) ?hfz6 ?hrz6 ?hQz6 (Or.inl ⟨?hwz6, ?hyz6⟩) (by assumption) ?restz6
        case haz6 => (simp only [List.getElem?_toArray, List.getElem?_cons_succ, List.getElem?_cons_zero]; exact rfl)
        case hQz6 => exact fun _ _ _ h => h
        case hfz6 => kernel_rfl
        case hrz6 => kernel_rfl
        case hwz6 => rfl
        case hyz6 => (intro w hSw; (try dsimp only at hSw); obtain ⟨e0, e1, e2, e3⟩ := FACTS.out _ hSw; go_simp; (try with_reducible rfl))
        try simp only [Act.put, List.setIfInBounds_toArray, List.set_cons_zero, List.set_cons_succ]
        refine' wpAnyH_take (i := 6) (oi := ?oiz7) (v := ?vz7) ?haz7 (by kernel_rfl) ?hfz7 ?hrz7 ?hQz7 (Or.inl ⟨?hwz7, ?hyz7⟩) (by assumption) ?restz7
        case haz7 => (simp only [List.getElem?_toArray, List.getElem?_cons_succ, List.getElem?_cons_zero]; exact rfl)
        case hQz7 => exact fun _ _ _ h => h
        case hfz7 => kernel_rfl
        case hrz7 => kernel_rfl
        case hwz7 => rfl
        case hyz7 => (intro w hSw; (try dsimp only at hSw); obtain ⟨e0, e1, e2, e3⟩ := FACTS.out _ hSw; go_simp; (try with_reducible rfl))
        try simp only [Act.put, List.setIfInBounds_toArray, List.set_cons_zero, List.set_cons_succ]
        refine' wpAnyH_take (i := 7) (oi := ?oiz8) (v := ?vz8) ?haz8 (by kernel_rfl) ?hfz8 ?hrz8 ?hQz8 (Or.inl ⟨?hwz8, ?hyz8⟩) (by assumption) ?restz8
        case haz8 => (simp only [List.getElem?_toArray, List.getElem?_cons_succ, List.getElem?_cons_zero]; exact rfl)
        case hQz8 => exact fun _ _ _ h => h
        case hfz8 => kernel_rfl
        case hrz8 => kernel_rfl
        case hwz8 => rfl
        case hyz8 => (intro w hSw; (try dsimp only at hSw); obtain ⟨e0, e1, e2, e3⟩ := FACTS.out _ hSw; go_simp; (try with_reducible rfl))
        try simp only [Act.put, List.setIfInBounds_toArray, List.set_cons_zero, List.set_cons_succ]
        refine' wpAnyH_take (i := 8) (oi := ?oiz9) (v := ?vz9) ?haz9 (by kernel_rfl) ?hfz9 ?hrz9 ?hQz9 (Or.inl ⟨?hwz9, ?hyz9⟩) (by assumption) ?restz9
        case haz9 => (simp only [List.getElem?_toArray, List.getElem?_cons_succ, List.getElem?_cons_zero]; exact rfl)
        case hQz9 => exact fun _ _ _ h => h
        case hfz9 => kernel_rfl
        case hrz9 => kernel_rfl
        case hwz9 => rfl
        case hyz9 => (intro w hSw; (try dsimp only at hSw); obtain ⟨e0, e1, e2, e3⟩ := FACTS.out _ hSw; go_simp; (try with_reducible rfl))
        try simp only [Act.put, List.setIfInBounds_toArray, List.set_cons_zero, List.set_cons_succ]
        refine' wpAnyH_take (i := 9) (oi := ?oiz10) (v := ?vz10) ?haz10 (by kernel_rfl) ?hfz10 ?hrz10 ?hQz10 (Or.inl ⟨?hwz10, ?hyz10⟩) (by assumption) ?restz10
        case haz10 => (simp only [List.getElem?_toArray, List.getElem?_cons_succ, List.getElem?_cons_zero]; exact rfl)
        case hQz10 => exact fun _ _ _ h => h
        case hfz10 => kernel_rfl
        case hrz10 => kernel_rfl
        case hwz10 => rfl
        case hyz10 => (intro w hSw; (try dsimp only at hSw); obtain ⟨e0, e1, e2, e3⟩ := FACTS.out _ hSw; go_simp; (try with_reducible rfl))
        try simp only [Act.put, List.setIfInBounds_toArray, List.set_cons_zero, List.set_cons_succ]
        refine' wpAnyH_take (i := 10) (oi := ?oiz11) (v := ?vz11) ?haz11 (by kernel_rfl) ?hfz11 ?hrz11 ?hQz11 (Or.inl ⟨?hwz11, ?hyz11⟩) (by assumption) ?restz11
        case haz11 => (simp only [List.getElem?_toArray, List.getElem?_cons_succ, List.getElem?_cons_zero]; exact rfl)
        case hQz11 => exact fun _ _ _ h => h
        case hfz11 => kernel_rfl
        case hrz11 => kernel_rfl
        case hwz11 => rfl
        case hyz11 => (intro w hSw; (try dsimp only at hSw); obtain ⟨e0, e1, e2, e3⟩ := FACTS.out _ hSw; go_simp; (try with_reducible rfl))
        try simp only [Act.put, List.setIfInBounds_toArray, List.set_cons_zero, List.set_cons_succ]
        refine' wpAnyH_take (i := 11) (oi := ?oiz12) (v := ?vz12) ?haz12 (by kernel_rfl) ?hfz12 ?hrz12 ?hQz12 (Or.inl ⟨?hwz12, ?hyz12⟩) (by assumption) ?restz12
        case haz12 => (simp only [List.getElem?_toArray, List.getElem?_cons_succ, List.getElem?_cons_zero]; exact rfl)
        case hQz12 => exact fun _ _ _ h => h
        case hfz12 => kernel_rfl
        case hrz12 => kernel_rfl
        case hwz12 => rfl
        case hyz12 => (intro w hSw; (try dsimp only at hSw); obtain ⟨e0, e1, e2, e3⟩ := FACTS.out _ hSw; go_simp; (try with_reducible rfl))
        try simp only [Act.put, List.setIfInBounds_toArray, List.set_cons_zero, List.set_cons_succ]
        refine' wpAnyH_take (i := 12) (oi := ?oiz13) (v := ?vz13) ?haz13 (by kernel_rfl) ?hfz13 ?hrz13 ?hQz13 (Or.inl ⟨?hwz13, ?hyz13⟩) (by assumption) ?restz13
        case haz13 => (simp only [List.getElem?_toArray, List.getElem?_cons_succ, List.getElem?_cons_zero]; exact rfl)
        case hQz13 => exact fun _ _ _ h => h
        case hfz13 => kernel_rfl
        case hrz13 => kernel_rfl
        case hwz13 => rfl
        case hyz13 => (intro w hSw; (try dsimp only at hSw); obtain ⟨e0, e1, e2, e3⟩ := FACTS.out _ hSw; go_simp; (try with_reducible rfl))
        try simp only [Act.put, List.setIfInBounds_toArray, List.set_cons_zero, List.set_cons_succ]
        refine' wpAnyH_take (i := 13) (oi := ?oiz14) (v := ?vz14) ?haz14 (by kernel_rfl) ?hfz14 ?hrz14 ?hQz14 (Or.inl ⟨?hwz14, ?hyz14⟩) (by assumption) ?restz14
        case haz14 => (simp only [List.getElem?_toArray, List.getElem?_cons_succ, List.getElem?_cons_zero]; exact rfl)
        case hQz14 => exact fun _ _ _ h => h
        case hfz14 => kernel_rfl
        case hrz14 => kernel_rfl
        case hwz14 => rfl
        case hyz14 => (intro w hSw; (try dsimp only at hSw); obtain ⟨e0, e1, e2, e3⟩ := FACTS.out _ hSw; go_simp; (try with_reducible rfl))
        try simp only [Act.put, List.setIfInBounds_toArray, List.set_cons_zero, List.set_cons_succ]
        refine' wpAnyH_take (i := 14) (oi := ?oiz15) (v := ?vz15) ?haz15 (by kernel_rfl) ?hfz15 ?hrz15 ?hQz15 (Or.inl ⟨?hwz15, ?hyz15⟩) (by assumption) ?restz15
        case haz15 => (simp only [List.getElem?_toArray, List.getElem?_cons_succ, List.getElem?_cons_zero]; exact rfl)
        case hQz15 => exact fun _ _ _ h => h
        case hfz15 => kernel_rfl
        case hrz15 => kernel_rfl
        case hwz15 => rfl
        case hyz15 => (intro w hSw; (try dsimp only at hSw); obtain ⟨e0, e1, e2, e3⟩ := FACTS.out _ hSw; go_simp; (try with_reducible rfl))
        try simp only [Act.put, List.setIfInBounds_toArray, List.set_cons_zero, List.set_cons_succ]
        refine' wpAnyH_take (i := 15) (oi := ?oiz16) (v := ?vz16) ?haz16 (by kernel_rfl) ?hfz16 ?hrz16 ?hQz16 (Or.inl ⟨?hwz16, ?hyz16⟩) (by assumption) ?restz16
        case haz16 => (simp only [List.getElem?_toArray, List.getElem?_cons_succ, List.getElem?_cons_zero]; exact rfl)
        case hQz16 => exact fun _ _ _ h => h
        case hfz16 => kernel_rfl
        case hrz16 => kernel_rfl
        case hwz16 => rfl
        case hyz16 => (intro w hSw; (try dsimp only at hSw); obtain ⟨e0, e1, e2, e3⟩ := FACTS.out _ hSw; go_simp; (try with_reducible rfl))
        try simp only [Act.put, List.setIfInBounds_toArray, List.set_cons_zero, List.set_cons_succ]
        refine' wpAnyH_take (i := 16) (oi := ?oiz17) (v := ?vz17) ?haz17 (by kernel_rfl) ?hfz17 ?hrz17 ?hQz17 (Or.inl ⟨?hwz17, ?hyz17⟩) (by assumption) ?restz17
        case haz17 => (simp only [List.getElem?_toArray, List.getElem?_cons_succ, List.getElem?_cons_zero]; exact rfl)
        case hQz17 => exact fun _ _ _ h => h
        case hfz17 => kernel_rfl
        case hrz17 => kernel_rfl
        case hwz17 => rfl
        case hyz17 => (intro w hSw; (try dsimp only at hSw); obtain ⟨e0, e1, e2, e3⟩ := FACTS.out _ hSw; go_simp; (try with_reducible rfl))
        try simp only [Act.put, List.setIfInBounds_toArray, List.set_cons_zero, List.set_cons_succ]
        refine wpAnyH_done (by kernel_rfl) ?_ _
        go_wp2_with fail
        go_ret2
        exact ⟨p1, d, _, rfl, HP1.out.grown (Below.refl _ _).drew, HSF.out, fun _ => by rw [HX.out]; exact HRC.out, HB.out.drew⟩
      | some u =>
        obtain ⟨v, hmv, hrv⟩ := HL.out.ms x u hrc
        rw [hmv] at FACTS
        have sv := hrv.1.isSl
        have HRC := Lib.hid hrc
        have hU := HCD.out.pm (by omega) hrc
        have HU := Lib.hid hU
        have HRV := Lib.hid hrv
        clear hrc hmv hrv hU
        go_wp2_with fail
        refine wp_region_held_drew (S := fun W => Below wr.heap.size wr W) (by kernel_rfl) ((Below.refl _ _).drew) (fun hHeld => ?_)
        refine' wpAnyH_take (i := 0) (oi := ?oiz18) (v := ?vz18) ?haz18 (by kernel_rfl) ?hfz18 ?hrz18 ?hQz18 (Or.inl ⟨?hwz18, ?hyz18⟩) (by assumption) ?restz18
        case haz18 => (simp only [List.getElem?_toArray, List.getElem?_cons_zero]; exact rfl)
        case hQz18 => exact fun _ _ _ h => h
        case hfz18 => kernel_rfl
        case hrz18 => kernel_rfl
        case hwz18 => rfl
        case hyz18 => (intro w hSw; (try dsimp only at hSw); obtain ⟨e0, e1, e2, e3⟩ := FACTS.out _ hSw; go_simp; (try with_reducible rfl))
        try simp only [Act.put, List.setIfInBounds_toArray, List.set_cons_zero, List.set_cons_succ]
        refine' wpAnyH_take (i := 1) (oi := ?oiz19) (v := ?vz19) ?haz19 (by kernel_rfl) ?hfz19 ?hrz19 ?hQz19 (Or.inl ⟨?hwz19, ?hyz19⟩) (by assumption) ?restz19
        case haz19 => (simp only [List.getElem?_toArray, List.getElem?_cons_succ, List.getElem?_cons_zero]; exact rfl)
        case hQz19 => exact fun _ _ _ h => h
        case hfz19 => kernel_rfl
        case hrz19 => kernel_rfl
        case hwz19 => rfl
        case hyz19 => (intro w hSw; (try dsimp only at hSw); obtain ⟨e0, e1, e2, e3⟩ := FACTS.out _ hSw; go_simp; (try with_reducible rfl))
        try simp only [Act.put, List.setIfInBounds_toArray, List.set_cons_zero, List.set_cons_succ]
        refine' wpAnyH_take (i := 2) (oi := ?oiz20) (v := ?vz20) ?haz20 (by kernel_rfl) ?hfz20 ?hrz20 ?hQz20 (Or.inl ⟨?hwz20, ?hyz20⟩) (by assumption) ?restz20
        case haz20 => (simp only [List.getElem?_toArray, List.getElem?_cons_succ, List.getElem?_cons_zero]; exact rfl)
        case hQz20 => exact fun _ _ _ h => h
        case hfz20 => kernel_rfl
        case hrz20 => kernel_rfl
        case hwz20 => rfl
        case hyz20 => (intro w hSw; (try dsimp only at hSw); obtain ⟨e0, e1, e2, e3⟩ := FACTS.out _ hSw; go_simp; (try with_reducible rfl))
        try simp only [Act.put, List.setIfInBounds_toArray, List.set_cons_zero, List.set_cons_succ]
        refine' wpAnyH_take (i := 3) (oi := ?oiz21) (v := ?vz21) ?haz21 (by kernel_rfl) ?hfz21 ?hrz21 ?hQz21 (Or.inl ⟨?hwz21, ?hyz21⟩) (by assumption) ?restz21
        case haz21 => (simp only [List.getElem?_toArray, List.getElem?_cons_succ, List.getElem?_cons_zero]; exact rfl)
        case hQz21 => exact fun _ _ _ h => h
        case hfz21 => kernel_rfl
        case hrz21 => kernel_rfl
        case hwz21 => rfl
        case hyz21 => (intro w hSw; (try dsimp only at hSw); obtain ⟨e0, e1, e2, e3⟩ := FACTS.out _ hSw; go_simp; (try with_reducible rfl))
        try simp only [Act.put, List.setIfInBounds_toArray, List.set_cons_zero, List.set_cons_succ]
        refine' wpAnyH_take (i := 4) (oi := ?oiz22) (v := ?vz22) ?haz22 (by kernel_rfl) ?hfz22 ?hrz22 ?hQz22 (Or.inl ⟨?hwz22, ?hyz22⟩) (by assumption) ?restz22
        case haz22 => (simp only [List.getElem?_toArray, List.getElem?_cons_succ, List.getElem?_cons_zero]; exact rfl)
        case hQz22 => exact fun _ _ _ h => h
        case hfz22 => kernel_rfl
        case hrz22 => kernel_rfl
        case hwz22 => rfl
        case hyz22 => (intro w hSw; (try dsimp only at hSw); obtain ⟨e0, e1, e2, e3⟩ := FACTS.out _ hSw; go_simp; (try with_reducible rfl))
        try simp only [Act.put, List.setIfInBounds_toArray, List.set_cons_zero, List.set_cons_succ]
        refine' wpAnyH_take (i := 5) (oi := ?oiz23) (v := ?vz23) ?haz23 (by kernel_rfl) ?hfz23 ?hrz23 ?hQz23 (Or.inl ⟨?hwz23, ?hyz23⟩) (by assumption) ?restz23
        case haz23 => (simp only [List.getElem?_toArray, List.getElem?_cons_succ, List.getElem?_cons_zero]; exact rfl)
        case hQz23 => exact fun _ _ _ h => h
        case hfz23 => kernel_rfl
        case hrz23 => kernel_rfl
        case hwz23 => rfl
        case hyz23 => (intro w hSw; (try dsimp only at hSw); obtain ⟨e0, e1, e2, e3⟩ := FACTS.out _ hSw; go_simp; (try with_reducible rfl))
        try simp only [Act.put, List.setIfInBounds_toArray, List.set_cons_zero, List.set_cons_succ]
        refine' wpAnyH_take (i := 6) (oi := ?oiz24) (v := ?vz24) ?haz24 (by kernel_rfl) ?hfz24 ?hrz24 ?hQz24 (Or.inl ⟨?hwz24, ?hyz24⟩) (by assumption) ?restz24
        case haz24 => (simp only [List.getElem?_toArray, List.getElem?_cons_succ, List.getElem?_cons_zero]; exact rfl)
        case hQz24 => exact fun _ _ _ h => h
        case hfz24 => kernel_rfl
        case hrz24 => kernel_rfl
        case hwz24 => rfl
        case hyz24 => (intro w hSw; (try dsimp only at hSw); obtain ⟨e0, e1, e2, e3⟩ := FACTS.out _ hSw; go_simp; (try with_reducible rfl))
        try simp only [Act.put, List.setIfInBounds_toArray, List.set_cons_zero, List.set_cons_succ]
        refine' wpAnyH_take (i := 7) (oi := ?oiz25) (v := ?vz25) ?haz25 (by kernel_rfl) ?hfz25 ?hrz25 ?hQz25 (Or.inl ⟨?hwz25, ?hyz25⟩) (by assumption) ?restz25
        case haz25 => (simp only [List.getElem?_toArray, List.getElem?_cons_succ, List.getElem?_cons_zero]; exact rfl)
        case hQz25 => exact fun _ _ _ h => h
        case hfz25 => kernel_rfl
        case hrz25 => kernel_rfl
        case hwz25 => rfl
        case hyz25 => (intro w hSw; (try dsimp only at hSw); obtain ⟨e0, e1, e2, e3⟩ := FACTS.out _ hSw; go_simp; (try with_reducible rfl))
        try simp only [Act.put, List.setIfInBounds_toArray, List.set_cons_zero, List.set_cons_succ]
        refine' wpAnyH_take (i := 8) (oi := ?oiz26) (v := ?vz26) ?haz26 (by kernel_rfl) ?hfz26 ?hrz26 ?hQz26 (Or.inl ⟨?hwz26, ?hyz26⟩) (by assumption) ?restz26
        case haz26 => (simp only [List.getElem?_toArray, List.getElem?_cons_succ, List.getElem?_cons_zero]; exact rfl)
        case hQz26 => exact fun _ _ _ h => h
        case hfz26 => kernel_rfl
        case hrz26 => kernel_rfl
        case hwz26 => rfl
        case hyz26 => (intro w hSw; (try dsimp only at hSw); obtain ⟨e0, e1, e2, e3⟩ := FACTS.out _ hSw; go_simp; (try with_reducible rfl))
        try simp only [Act.put, List.setIfInBounds_toArray, List.set_cons_zero, List.set_cons_succ]
        refine' wpAnyH_take (i := 9) (oi := ?oiz27) (v := ?vz27) ?haz27 (by kernel_rfl) ?hfz27 ?hrz27 ?hQz27 (Or.inl ⟨?hwz27, ?hyz27⟩) (by assumption) ?restz27
        case haz27 => (simp only [List.getElem?_toArray, List.getElem?_cons_succ, List.getElem?_cons_zero]; exact rfl)
        case hQz27 => exact fun _ _ _ h => h
        case hfz27 => kernel_rfl
        case hrz27 => kernel_rfl
        case hwz27 => rfl
        case hyz27 => (intro w hSw; (try dsimp only at hSw); obtain ⟨e0, e1, e2, e3⟩ := FACTS.out _ hSw; go_simp; (try with_reducible rfl))
        try simp only [Act.put, List.setIfInBounds_toArray, List.set_cons_zero, List.set_cons_succ]
        refine' wpAnyH_take (i := 10) (oi := ?oiz28) (v := ?vz28) ?haz28 (by kernel_rfl) ?hfz28 ?hrz28 ?hQz28 (Or.inl ⟨?hwz28, ?hyz28⟩) (by assumption) ?restz28
        case haz28 => (simp only [List.getElem?_toArray, List.getElem?_cons_succ, List.getElem?_cons_zero]; exact rfl)
        case hQz28 => exact fun _ _ _ h => h
        case hfz28 => kernel_rfl
        case hrz28 => kernel_rfl
        case hwz28 => rfl
        case hyz28 => (intro w hSw; (try dsimp only at hSw); obtain ⟨e0, e1, e2, e3⟩ := FACTS.out _ hSw; go_simp; (try with_reducible rfl))
        try simp only [Act.put, List.setIfInBounds_toArray, List.set_cons_zero, List.set_cons_succ]
        refine' wpAnyH_take (i := 11) (oi := ?oiz29) (v := ?vz29) ?haz29 (by kernel_rfl) ?hfz29 ?hrz29 ?hQz29 (Or.inl ⟨?hwz29, ?hyz29⟩) (by assumption) ?restz29
        case haz29 => (simp only [List.getElem?_toArray, List.getElem?_cons_succ, List.getElem?_cons_zero]; exact rfl)
        case hQz29 => exact fun _ _ _ h => h
        case hfz29 => kernel_rfl
        case hrz29 => kernel_rfl
        case hwz29 => rfl
        case hyz29 => (intro w hSw; (try dsimp only at hSw); obtain ⟨e0, e1, e2, e3⟩ := FACTS.out _ hSw; go_simp; (try with_reducible rfl))
        try simp only [Act.put, List.setIfInBounds_toArray, List.set_cons_zero, List.set_cons_succ]
        refine' wpAnyH_take (i := 12) (oi := ?oiz30) (v := ?vz30) ?haz30 (by kernel_rfl) ?hfz30 ?hrz30 ?hQz30 (Or.inl ⟨?hwz30, ?hyz30⟩) (by assumption) ?restz30
        case haz30 => (simp only [List.getElem?_toArray, List.getElem?_cons_succ, List.getElem?_cons_zero]; exact rfl)
        case hQz30 => exact fun _ _ _ h => h
        case hfz30 => kernel_rfl
        case hrz30 => kernel_rfl
        case hwz30 => rfl
        case hyz30 => (intro w hSw; (try dsimp only at hSw); obtain ⟨e0, e1, e2, e3⟩ := FACTS.out _ hSw; go_simp; (try with_reducible rfl))
        try simp only [Act.put, List.setIfInBounds_toArray, List.set_cons_zero, List.set_cons_succ]
        refine' wpAnyH_take (i := 13) (oi := ?oiz31) (v := ?vz31) ?haz31 (by kernel_rfl) ?hfz31 ?hrz31 ?hQz31 (Or.inl ⟨?hwz31, ?hyz31⟩) (by assumption) ?restz31
        case haz31 => (simp only [List.getElem?_toArray, List.getElem?_cons_succ, List.getElem?_cons_zero]; exact rfl)
        case hQz31 => exact fun _ _ _ h => h
        case hfz31 => kernel_rfl
        case hrz31 => kernel_rfl
        case hwz31 => rfl
        case hyz31 => (intro w hSw; (try dsimp only at hSw); obtain ⟨e0, e1, e2, e3⟩ := FACTS.out _ hSw; go_simp; (try with_reducible rfl))
        try simp only [Act.put, List.setIfInBounds_toArray, List.set_cons_zero, List.set_cons_succ]
        refine' wpAnyH_take (i := 14) (oi := ?oiz32) (v := ?vz32) ?haz32 (by kernel_rfl) ?hfz32 ?hrz32 ?hQz32 (Or.inl ⟨?hwz32, ?hyz32⟩) (by assumption) ?restz32
        case haz32 => (simp only [List.getElem?_toArray, List.getElem?_cons_succ, List.getElem?_cons_zero]; exact rfl)
        case hQz32 => exact fun _ _ _ h => h
        case hfz32 => kernel_rfl
        case hrz32 => kernel_rfl
        case hwz32 => rfl
        case hyz32 => (intro w hSw; (try dsimp only at hSw); obtain ⟨e0, e1, e2, e3⟩ := FACTS.out _ hSw; go_simp; (try with_reducible rfl))
        try simp only [Act.put, List.setIfInBounds_toArray, List.set_cons_zero, List.set_cons_succ]
        refine' wpAnyH_take (i := 15) (oi := ?oiz33) (v := ?vz33) ?haz33 (by kernel_rfl) ?hfz33 ?hrz33 ?hQz33 (Or.inl ⟨?hwz33, ?hyz33⟩) (by assumption) ?restz33
        case haz33 => (simp only [List.getElem?_toArray, List.getElem?_cons_succ, List.getElem?_cons_zero]; exact rfl)
        case hQz33 => exact fun _ _ _ h => h
        case hfz33 => kernel_rfl
        case hrz33 => kernel_rfl
        case hwz33 => rfl
        case hyz33 => (intro w hSw; (try dsimp only at hSw); obtain ⟨e0, e1, e2, e3⟩ := FACTS.out _ hSw; go_simp; (try with_reducible rfl))
        try simp only [Act.put, List.setIfInBounds_toArray, List.set_cons_zero, List.set_cons_succ]
        refine' wpAnyH_take (i := 16) (oi := ?oiz34) (v := ?vz34) ?haz34 (by kernel_rfl) ?hfz34 ?hrz34 ?hQz34 (Or.inl ⟨?hwz34, ?hyz34⟩) (by assumption) ?restz34
        case haz34 => (simp only [List.getElem?_toArray, List.getElem?_cons_succ, List.getElem?_cons_zero]; exact rfl)
        case hQz34 => exact fun _ _ _ h => h
        case hfz34 => kernel_rfl
        case hrz34 => kernel_rfl
        case hwz34 => rfl
        case hyz34 => (intro w hSw; (try dsimp only at hSw); obtain ⟨e0, e1, e2, e3⟩ := FACTS.out _ hSw; go_simp; (try with_reducible rfl))
        try simp only [Act.put, List.setIfInBounds_toArray, List.set_cons_zero, List.set_cons_succ]
        refine wpAnyH_done (by kernel_rfl) ?_ _
        go_wp2_with fail
        refine (back_calls v u _ (HRV.out.grown (Below.refl _ _).drew).1 HU.out.1).mono ?_
        rintro e w1 ⟨bv, rfl, hbv, hb1⟩
        have sbv := hbv.isSl
        have HBV := Lib.hid hbv.ints; have HB1 := Lib.hid (Below.chain (Below.refl _ _).drew hb1)
        clear hbv hb1
        go_wp2_with fail
        refine (then_calls u1 bv p1 (backL u) _ (HP1.out.grown HB1.out).1 HBV.out (by rw [HSF.out.pm.2]; omega) (fun z hz => by have := HSF.out.pm.1.range z hz; rw [HSF.out.pm.2] at this; rw [HU.out.back.2]; omega)).mono ?_
        rintro e w2 ⟨nv, rfl, hnv, hb2⟩
        have snv := hnv.isSl
        have HNV := Lib.hid hnv; have HB2 := Lib.hid (Below.chain HB1.out hb2)
        have hsz := HB1.out.size
        clear hnv hb2
        go_wp2_with fail
        go_roundw
        case rel =>
          refine ⟨d + 1, thenL p1 (backL u), by go_num, by omega, RowL.made HNV.out (by rw [thenL_length, HSF.out.pm.2]; exact h0) hsz (fun b hb => (HMR.out.lt b hb).2), HSF.out.step (by omega) hlt HCD.out ?_, Below.chain HB.out HB2.out⟩
          rw [HX.out]; exact HRC.out
        case measure => simp [intOf]; omega
    · obtain rfl : d = n := by omega
      have HSF := Lib.hid hsf; have HB := Lib.hid hbr; have HP1 := Lib.hid hp1
      clear hsf hbr hp1
      go_wp2_with fail
      go_ret2
      exact ⟨p1, d, _, rfl, HP1.out, HSF.out, fun h => absurd h (Nat.lt_irrefl _), HB.out⟩
end Go.Proofs.Ytplekfgadbjgdaa


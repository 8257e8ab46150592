/- slices.Sort and IsSorted of at most twelve numbers, walked. -/
import Derived.Test.YtplekfgadbjgdaaQGroupOrbitStabilizer0
import Derived.Test.YtplekfgadbjgdaaQGroupOrbitStabilizer1
import Derived.Test.YtplekfgadbjgdaaQGroupOrbitStabilizer2
import Derived.Test.YtplekfgadbjgdaaQGroupOrbitStabilizer5
import Derived.Deep.RegionHeld3
import Derived.KernelRfl
namespace Go.Proofs.Ytplekfgadbjgdaa
open Go.RowKit Go.Sl

def SortedL (xs : List Int) : Prop := ∀ p q, p < q → q < xs.length → nth xs p ≤ nth xs q

theorem isNaN_calls (x : Int) (w : World) : Calls Try.prog 105 #[.int .i64 x] w fun e w' => e = .returned (.bool false) ∧ w = w' := by
  go_enter Try.func105, Try.ntmps105
  go_wp2
  go_ret
  exact ⟨rfl, rfl⟩
theorem less_calls (x y : Int) (w : World) : Calls Try.prog 169 #[.int .i64 x, .int .i64 y] w fun e w' => e = .returned (.bool (decide (x < y))) ∧ w = w' := by
  go_enter Try.func169, Try.ntmps169
  go_wp2_with (go_at_call 105; refine (isNaN_calls _ _).mono ?_; rintro e w' ⟨rfl, rfl⟩)
  go_ret
  exact ⟨rfl, rfl⟩

set_option maxRecDepth 100000 in
theorem len64_calls (n : Nat) (hn : n ≤ 12) (w : World) : Calls Try.prog 173 #[.int .u64 n] w fun e w' => (∃ k : Int, e = .returned (.int .i64 k)) ∧ w = w' := by
  rcases (show n = 0 ∨ n = 1 ∨ n = 2 ∨ n = 3 ∨ n = 4 ∨ n = 5 ∨ n = 6 ∨ n = 7 ∨ n = 8 ∨ n = 9 ∨ n = 10 ∨ n = 11 ∨ n = 12 by omega) with rfl | rfl | rfl | rfl | rfl | rfl | rfl | rfl | rfl | rfl | rfl | rfl | rfl
  all_goals
    go_enter Try.func173, Try.ntmps173
    go_wp2
    go_ret
    exact ⟨⟨_, rfl⟩, rfl⟩

set_option maxRecDepth 100000 in
theorem len_calls (n : Nat) (hn : n ≤ 12) (w : World) : Calls Try.prog 154 #[.int .u64 n] w fun e w' => (∃ k : Int, e = .returned (.int .i64 k)) ∧ w = w' := by
  go_enter Try.func154, Try.ntmps154
  go_wp2_with fail
  refine (len64_calls n hn _).mono ?_
  rintro e w' ⟨⟨k, rfl⟩, rfl⟩
  go_wp2_with fail
  go_ret
  exact ⟨⟨_, rfl⟩, rfl⟩

/-- Two neighbours exchanged. -/
def exch (xs : List Int) (j : Nat) : List Int := (xs.set j (nth xs (j - 1))).set (j - 1) (nth xs j)
theorem exch_perm {xs : List Int} {j : Nat} (h0 : 0 < j) (hj : j < xs.length) : (exch xs j).Perm xs := by
  unfold exch
  rw [nth_lt hj, nth_lt (show j - 1 < xs.length by omega)]
  exact List.set_set_perm hj (by omega)
theorem nth_exch {xs : List Int} {j : Nat} (h0 : 0 < j) (hj : j < xs.length) (q : Nat) : nth (exch xs j) q = if q = j - 1 then nth xs j else if q = j then nth xs (j - 1) else nth xs q := by
  unfold exch nth
  rw [List.getD_eq_getElem?_getD, List.getElem?_set]
  by_cases e : q = j - 1
  · subst e; rw [if_pos rfl, if_pos rfl, if_pos (by simp; omega)]; rfl
  · rw [if_neg (fun h => e h.symm), if_neg e, List.getElem?_set]
    by_cases e2 : q = j
    · subst e2; rw [if_pos rfl, if_pos rfl, if_pos hj]; rfl
    · rw [if_neg (fun h => e2 h.symm), if_neg e2]; rw [← List.getD_eq_getElem?_getD]
/-- Sorted up to i, but for what stands at j. -/
def SortedBut (xs : List Int) (i j : Nat) : Prop := ∀ p q, p < q → q ≤ i → q ≠ j → nth xs p ≤ nth xs q
theorem sortedBut_exch {xs : List Int} {i j : Nat} (h : SortedBut xs i j) (h0 : 0 < j) (hji : j ≤ i) (hi : i < xs.length) (hlt : nth xs j < nth xs (j - 1)) : SortedBut (exch xs j) i (j - 1) := by
  intro p q hpq hqi hq
  have hp := nth_exch (xs := xs) h0 (by omega) p
  have hq' := nth_exch (xs := xs) h0 (by omega) q
  rw [if_neg hq] at hq'
  by_cases e1 : q = j
  · subst e1
    rw [if_pos rfl] at hq'
    rw [hq']
    by_cases e2 : p = q - 1
    · rw [if_pos e2] at hp; omega
    · rw [if_neg e2, if_neg (by omega)] at hp; rw [hp]; exact h p (q - 1) (by omega) (by omega) (by omega)
  · rw [if_neg e1] at hq'
    rw [hq']
    by_cases e2 : p = j - 1
    · rw [if_pos e2] at hp
      rw [hp]
      by_cases e3 : q < j
      · omega
      · exact h j q (by omega) hqi e1
    · rw [if_neg e2] at hp
      by_cases e3 : p = j
      · rw [if_pos e3] at hp; rw [hp]; exact h (j - 1) q (by omega) hqi e1
      · rw [if_neg e3] at hp; rw [hp]; exact h p q hpq hqi e1
theorem sortedBut_end {xs : List Int} {i j : Nat} (h : SortedBut xs i j) (hji : j ≤ i) (he : j = 0 ∨ nth xs (j - 1) ≤ nth xs j) : ∀ p q, p < q → q ≤ i → nth xs p ≤ nth xs q := by
  intro p q hpq hqi
  by_cases e : q = j
  · subst e
    rcases he with h0 | h0
    · omega
    · by_cases e2 : p = q - 1
      · rw [e2]; exact h0
      · have := h p (q - 1) (by omega) (by omega) (by omega); omega
  · exact h p q hpq hqi e

set_option maxRecDepth 100000 in
set_option maxHeartbeats 2000000 in
theorem insertionSort_calls (v : Value) (xs : List Int) (B : Nat) (w : World) (hv : OwnI w B v xs) (hl : xs.length ≤ 1000) (_hBw : B ≤ w.heap.size) :
    Calls Try.prog 163 #[v, .int .i64 0, .int .i64 xs.length] w fun e w' => (∃ u, e = .returned u) ∧ ∃ ys, ys.Perm xs ∧ SortedL ys ∧ OwnI w' B v ys ∧ w'.heap.size = w.heap.size ∧ Below B w w' ∧ (∀ b, row v ≠ some b → w'.heap[b]? = w.heap[b]?) := by
  have sv := hv.isSl
  have lv := hv.len
  obtain ⟨L, hL⟩ : ∃ L, xs.length = L := ⟨_, rfl⟩
  rw [hL] at lv hl ⊢
  have HL := Lib.hid hL; have HV := Lib.hid hv
  clear hL hv
  go_enter Try.func163, Try.ntmps163
  go_wp2_with fail
  go_loopw [6] (fun i wr => ∃ (k : Nat) (ys : List Int), (k ≤ L ∨ k = 1) ∧ 1 ≤ k ∧ i = .int .i64 k ∧ ys.Perm xs ∧ (∀ p q, p < q → q < k → q < L → nth ys p ≤ nth ys q) ∧ OwnI wr B v ys ∧ wr.heap.size = w.heap.size ∧ Below B w wr ∧ (∀ b, row v ≠ some b → wr.heap[b]? = w.heap[b]?)) (fun i _ => L + 1 - (intOf i).toNat)
  case atStart => exact ⟨1, xs, .inr rfl, Nat.le_refl _, rfl, List.Perm.refl _, fun p q h1 h2 => by omega, HV.out, rfl, Below.refl _ _, fun _ _ => rfl⟩
  case round =>
    rename World => Wo
    obtain ⟨i, ys, hi, hi1, rfl, hp, hso, ho, hsz, hb, hoth⟩ := hrel
    have HOTH := Lib.hid hoth; clear hoth
    by_cases hlt : i < L
    · have HP := Lib.hid hp; have HO := Lib.hid ho; have HB := Lib.hid hb
      have hsb : SortedBut ys i i := fun p q h1 h2 h3 => hso p q h1 (by omega) (by omega)
      have HSB := Lib.hid hsb
      have HYL := Lib.hid (hp.length_eq.trans HL.out)
      clear hp ho hb hsb hso
      go_wp2_with fail
      go_loopw [7] (fun j wi => ∃ (k : Nat) (zs : List Int), k ≤ i ∧ j = .int .i64 k ∧ zs.Perm xs ∧ SortedBut zs i k ∧ OwnI wi B v zs ∧ wi.heap.size = w.heap.size ∧ Below B w wi ∧ (∀ b, row v ≠ some b → wi.heap[b]? = w.heap[b]?)) (fun j _ => (intOf j).toNat)
      case atStart => exact ⟨i, ys, Nat.le_refl _, rfl, HP.out, HSB.out, HO.out, hsz, HB.out, HOTH.out⟩
      case round =>
        obtain ⟨j, zs, hj, rfl, hp, hsb, ho, hsz2, hb, hoth⟩ := hrel
        have HOT2 := Lib.hid hoth; clear hoth
        have hzl : zs.length = L := hp.length_eq.trans HL.out
        have fin : (j = 0 ∨ nth zs (j - 1) ≤ nth zs j) → ∀ p q, p < q → q < i + 1 → q < L → nth zs p ≤ nth zs q := fun he p q h1 h2 h3 => sortedBut_end hsb hj he p q h1 (by omega)
        have HFIN := Lib.hid fin
        by_cases hj0 : 0 < j
        · have c0 := ho.cell (k := j) (by omega)
          obtain ⟨jj, hjj⟩ : ∃ jj, j = jj + 1 := ⟨j - 1, by omega⟩
          subst hjj
          have c1 := ho.cell (k := jj) (by omega)
          have f0 := ho.frozen (k := jj + 1) (by omega)
          have f1 := ho.frozen (k := jj) (by omega)
          obtain ⟨a, ha⟩ : ∃ a, nth zs (jj + 1) = a := ⟨_, rfl⟩
          obtain ⟨b, hb'⟩ : ∃ b, nth zs jj = b := ⟨_, rfl⟩
          rw [ha] at c0
          rw [hb'] at c1
          have hgt : ((jj : Int) + 1) > 0 := by omega
          have hw2 : IntKind.i64.wrap (jj : Int) = (jj : Int) := IntWalk.i64_in _ ⟨by omega, by omega⟩
          have hjl : (jj : Int) + 1 < (L : Int) := by omega
          have hjn : (0 : Int) ≤ (jj : Int) + 1 := by omega
          have hto : ((jj : Int) + 1).toNat = jj + 1 := by omega
          have hjl2 : jj < L := by omega
          have hw1 : IntKind.i64.wrap ((jj : Int) + 1 - 1) = (jj : Int) := by rw [show (jj : Int) + 1 - 1 = jj by omega]; exact IntWalk.i64_in _ ⟨by omega, by omega⟩
          by_cases hab : a < b
          · have hex : exch zs (jj + 1) = (zs.set (jj + 1) b).set jj a := by unfold exch; rw [Nat.add_sub_cancel, ha, hb']
            have o1 := (ho.set (k := jj + 1) (by omega) b)
            have o2 := o1.set (k := jj) (by rw [List.length_set]; omega) a
            rw [← hex] at o2
            have hbl := (hb.setCell (ho.ge (k := jj + 1) (by omega)) (.int .i64 b)).setCell (ho.ge (k := jj) (by omega)) (.int .i64 a)
            have hpp := (exch_perm (xs := zs) (j := jj + 1) (by omega) (by omega)).trans hp
            have hsb2 := sortedBut_exch hsb (by omega) hj (by omega) (by rw [Nat.add_sub_cancel, ha, hb']; exact hab)
            rw [Nat.add_sub_cancel] at hsb2
            have d1 := o1.cell (k := jj) (by rw [List.length_set]; omega)
            have g1 := o1.frozen (k := jj) (by rw [List.length_set]; omega)
            have hdec : decide (a < b) = true := decide_eq_true hab
            have hrow : row v = some (vblk v) := row_some (by have := ho.ints.cap; omega)
            have hot3 : ∀ c, row v ≠ some c → ((wr.setCell (vat v (jj + 1)) (.int .i64 b)).setCell (vat v jj) (.int .i64 a)).heap[c]? = w.heap[c]? := fun c hc => by
              have hne : c ≠ vblk v := fun e => hc (by rw [hrow, e])
              rw [Below.heap_setCell _ _ _ c (by rw [vat_block]; exact hne), Below.heap_setCell _ _ _ c (by rw [vat_block]; exact hne)]
              exact HOT2.out c hc
            have HOT3 := Lib.hid hot3
            clear hot3 hrow
            have HO2 := Lib.hid o2; have HBL := Lib.hid hbl; have HPP := Lib.hid hpp; have HSB2 := Lib.hid hsb2
            clear ho hb hp hsb o1 o2 hbl hpp hsb2 hex fin
            go_wp2_with fail
            refine wp_region_held_drew (S := fun W => W.cell? (vat v (jj + 1)) = some (.int .i64 a) ∧ W.cell? (vat v jj) = some (.int .i64 b)) (by kernel_rfl) (⟨c0, c1⟩) (fun hHeld => ?_)
            refine' wpAnyH_take (i := 0) (oi := ?oiz1) (v := ?vz1) ?haz1 (by kernel_rfl) ?hfz1 ?hrz1 ?hQz1 (Or.inl ⟨?hwz1, ?hyz1⟩) (by assumption) ?restz1
            case haz1 => (simp only [List.getElem?_toArray, List.getElem?_cons_zero]; exact rfl)
            case hQz1 => exact fun _ _ _ h => h
            case hfz1 => kernel_rfl
            case hrz1 => kernel_rfl
            case hwz1 => rfl
            case hyz1 => (intro w hSw; (try dsimp only at hSw); obtain ⟨e0, e1⟩ := hSw; go_simp; (try with_reducible rfl))
            try simp only [Act.put, List.setIfInBounds_toArray, List.set_cons_zero, List.set_cons_succ]
            refine' wpAnyH_take (i := 1) (oi := ?oiz2) (v := ?vz2) ?haz2 (by kernel_rfl) ?hfz2 ?hrz2 ?hQz2 (Or.inl ⟨?hwz2, ?hyz2⟩) (by assumption) ?restz2
            case haz2 => (simp only [List.getElem?_toArray, List.getElem?_cons_succ, List.getElem?_cons_zero]; exact rfl)
            case hQz2 => exact fun _ _ _ h => h
            case hfz2 => kernel_rfl
            case hrz2 => kernel_rfl
            case hwz2 => rfl
            case hyz2 => (intro w hSw; (try dsimp only at hSw); obtain ⟨e0, e1⟩ := hSw; go_simp; (try with_reducible rfl))
            try simp only [Act.put, List.setIfInBounds_toArray, List.set_cons_zero, List.set_cons_succ]
            refine' wpAnyH_take (i := 2) (oi := ?oiz3) (v := ?vz3) ?haz3 (by kernel_rfl) ?hfz3 ?hrz3 ?hQz3 (Or.inl ⟨?hwz3, ?hyz3⟩) (by assumption) ?restz3
            case haz3 => (simp only [List.getElem?_toArray, List.getElem?_cons_succ, List.getElem?_cons_zero]; exact rfl)
            case hQz3 => exact fun _ _ _ h => h
            case hfz3 => kernel_rfl
            case hrz3 => kernel_rfl
            case hwz3 => rfl
            case hyz3 => (intro w hSw; (try dsimp only at hSw); obtain ⟨e0, e1⟩ := hSw; go_simp; (try with_reducible rfl))
            try simp only [Act.put, List.setIfInBounds_toArray, List.set_cons_zero, List.set_cons_succ]
            refine' wpAnyH_take (i := 3) (oi := ?oiz4) (v := ?vz4) ?haz4 (by kernel_rfl) ?hfz4 ?hrz4 ?hQz4 (Or.inl ⟨?hwz4, ?hyz4⟩) (by assumption) ?restz4
            case haz4 => (simp only [List.getElem?_toArray, List.getElem?_cons_succ, List.getElem?_cons_zero]; exact rfl)
            case hQz4 => exact fun _ _ _ h => h
            case hfz4 => kernel_rfl
            case hrz4 => kernel_rfl
            case hwz4 => rfl
            case hyz4 => (intro w hSw; (try dsimp only at hSw); obtain ⟨e0, e1⟩ := hSw; go_simp; (try with_reducible rfl))
            try simp only [Act.put, List.setIfInBounds_toArray, List.set_cons_zero, List.set_cons_succ]
            refine' wpAnyH_take (i := 4) (oi := ?oiz5) (v := ?vz5) ?haz5 (by kernel_rfl) ?hfz5 ?hrz5 ?hQz5 (Or.inl ⟨?hwz5, ?hyz5⟩) (by assumption) ?restz5
            case haz5 => (simp only [List.getElem?_toArray, List.getElem?_cons_succ, List.getElem?_cons_zero]; exact rfl)
            case hQz5 => exact fun _ _ _ h => h
            case hfz5 => kernel_rfl
            case hrz5 => kernel_rfl
            case hwz5 => rfl
            case hyz5 => (intro w hSw; (try dsimp only at hSw); obtain ⟨e0, e1⟩ := hSw; go_simp; (try with_reducible rfl))
            try simp only [Act.put, List.setIfInBounds_toArray, List.set_cons_zero, List.set_cons_succ]
            refine' wpAnyH_take (i := 5) (oi := ?oiz6) (v := ?vz6) ?haz6 (by kernel_rfl) ?hfz6 ?hrz6 ?hQz6 (Or.inl ⟨?hwz6, ?hyz6⟩) (by assumption) ?restz6
            case haz6 => (simp only [List.getElem?_toArray, List.getElem?_cons_succ, List.getElem?_cons_zero]; exact rfl)
            case hQz6 => exact fun _ _ _ h => h
            case hfz6 => kernel_rfl
            case hrz6 => kernel_rfl
            case hwz6 => rfl
            case hyz6 => (intro w hSw; (try dsimp only at hSw); obtain ⟨e0, e1⟩ := hSw; go_simp; (try with_reducible rfl))
            try simp only [Act.put, List.setIfInBounds_toArray, List.set_cons_zero, List.set_cons_succ]
            refine' wpAnyH_take (i := 6) (oi := ?oiz7) (v := ?vz7) ?haz7 (by kernel_rfl) ?hfz7 ?hrz7 ?hQz7 (Or.inl ⟨?hwz7, ?hyz7⟩) (by assumption) ?restz7
            case haz7 => (simp only [List.getElem?_toArray, List.getElem?_cons_succ, List.getElem?_cons_zero]; exact rfl)
            case hQz7 => exact fun _ _ _ h => h
            case hfz7 => kernel_rfl
            case hrz7 => kernel_rfl
            case hwz7 => rfl
            case hyz7 => (intro w hSw; (try dsimp only at hSw); obtain ⟨e0, e1⟩ := hSw; go_simp; (try with_reducible rfl))
            try simp only [Act.put, List.setIfInBounds_toArray, List.set_cons_zero, List.set_cons_succ]
            refine' wpAnyH_take (i := 7) (oi := ?oiz8) (v := ?vz8) ?haz8 (by kernel_rfl) ?hfz8 ?hrz8 ?hQz8 (Or.inl ⟨?hwz8, ?hyz8⟩) (by assumption) ?restz8
            case haz8 => (simp only [List.getElem?_toArray, List.getElem?_cons_succ, List.getElem?_cons_zero]; exact rfl)
            case hQz8 => exact fun _ _ _ h => h
            case hfz8 => kernel_rfl
            case hrz8 => kernel_rfl
            case hwz8 => rfl
            case hyz8 => (intro w hSw; (try dsimp only at hSw); obtain ⟨e0, e1⟩ := hSw; go_simp; (try with_reducible rfl))
            try simp only [Act.put, List.setIfInBounds_toArray, List.set_cons_zero, List.set_cons_succ]
            refine' wpAnyH_take (i := 8) (oi := ?oiz9) (v := ?vz9) ?haz9 (by kernel_rfl) ?hfz9 ?hrz9 ?hQz9 (Or.inl ⟨?hwz9, ?hyz9⟩) (by assumption) ?restz9
            case haz9 => (simp only [List.getElem?_toArray, List.getElem?_cons_succ, List.getElem?_cons_zero]; exact rfl)
            case hQz9 => exact fun _ _ _ h => h
            case hfz9 => kernel_rfl
            case hrz9 => kernel_rfl
            case hwz9 => rfl
            case hyz9 => (intro w hSw; (try dsimp only at hSw); obtain ⟨e0, e1⟩ := hSw; go_simp; (try with_reducible rfl))
            try simp only [Act.put, List.setIfInBounds_toArray, List.set_cons_zero, List.set_cons_succ]
            refine' wpAnyH_take (i := 9) (oi := ?oiz10) (v := ?vz10) ?haz10 (by kernel_rfl) ?hfz10 ?hrz10 ?hQz10 (Or.inl ⟨?hwz10, ?hyz10⟩) (by assumption) ?restz10
            case haz10 => (simp only [List.getElem?_toArray, List.getElem?_cons_succ, List.getElem?_cons_zero]; exact rfl)
            case hQz10 => exact fun _ _ _ h => h
            case hfz10 => kernel_rfl
            case hrz10 => kernel_rfl
            case hwz10 => rfl
            case hyz10 => (intro w hSw; (try dsimp only at hSw); obtain ⟨e0, e1⟩ := hSw; go_simp; (try with_reducible rfl))
            try simp only [Act.put, List.setIfInBounds_toArray, List.set_cons_zero, List.set_cons_succ]
            refine' wpAnyH_take (i := 10) (oi := ?oiz11) (v := ?vz11) ?haz11 (by kernel_rfl) ?hfz11 ?hrz11 ?hQz11 (Or.inl ⟨?hwz11, ?hyz11⟩) (by assumption) ?restz11
            case haz11 => (simp only [List.getElem?_toArray, List.getElem?_cons_succ, List.getElem?_cons_zero]; exact rfl)
            case hQz11 => exact fun _ _ _ h => h
            case hfz11 => kernel_rfl
            case hrz11 => kernel_rfl
            case hwz11 => rfl
            case hyz11 => (intro w hSw; (try dsimp only at hSw); obtain ⟨e0, e1⟩ := hSw; go_simp; (try with_reducible rfl))
            try simp only [Act.put, List.setIfInBounds_toArray, List.set_cons_zero, List.set_cons_succ]
            refine' wpAnyH_take (i := 11) (oi := ?oiz12) (v := ?vz12) ?haz12 (by kernel_rfl) ?hfz12 ?hrz12 ?hQz12 (Or.inl ⟨?hwz12, ?hyz12⟩) (by assumption) ?restz12
            case haz12 => (simp only [List.getElem?_toArray, List.getElem?_cons_succ, List.getElem?_cons_zero]; exact rfl)
            case hQz12 => exact fun _ _ _ h => h
            case hfz12 => kernel_rfl
            case hrz12 => kernel_rfl
            case hwz12 => rfl
            case hyz12 => (intro w hSw; (try dsimp only at hSw); obtain ⟨e0, e1⟩ := hSw; go_simp; (try with_reducible rfl))
            try simp only [Act.put, List.setIfInBounds_toArray, List.set_cons_zero, List.set_cons_succ]
            refine' wpAnyH_take (i := 12) (oi := ?oiz13) (v := ?vz13) ?haz13 (by kernel_rfl) ?hfz13 ?hrz13 ?hQz13 (Or.inl ⟨?hwz13, ?hyz13⟩) (by assumption) ?restz13
            case haz13 => (simp only [List.getElem?_toArray, List.getElem?_cons_succ, List.getElem?_cons_zero]; exact rfl)
            case hQz13 => exact fun _ _ _ h => h
            case hfz13 => kernel_rfl
            case hrz13 => kernel_rfl
            case hwz13 => rfl
            case hyz13 => (intro w hSw; (try dsimp only at hSw); obtain ⟨e0, e1⟩ := hSw; go_simp; (try with_reducible rfl))
            try simp only [Act.put, List.setIfInBounds_toArray, List.set_cons_zero, List.set_cons_succ]
            refine wpAnyH_ready (rs := [13]) (by kernel_rfl) (by simp) ?_
            refine' AllReadyH.cons (o := ?oiz14) ?haz14 (fun K hK => ?stepz14) AllReadyH.nil
            case haz14 => (simp only [List.getElem?_toArray, List.getElem?_cons_succ, List.getElem?_cons_zero]; exact rfl)
            go_simp
            go_at_call 169
            refine (less_calls _ _ _).mono ?_
            rintro e w' ⟨rfl, rfl⟩
            refine hK.out _ _ (hHeld) (fun hHeld => ?_)
            clear hK K
            try simp only [Act.put, List.setIfInBounds_toArray, List.set_cons_zero, List.set_cons_succ]
            refine' wpAnyH_take (i := 14) (oi := ?oiz15) (v := ?vz15) ?haz15 (by kernel_rfl) ?hfz15 ?hrz15 ?hQz15 (Or.inl ⟨?hwz15, ?hyz15⟩) (by assumption) ?restz15
            case haz15 => (simp only [List.getElem?_toArray, List.getElem?_cons_succ, List.getElem?_cons_zero]; exact rfl)
            case hQz15 => exact fun _ _ _ h => h
            case hfz15 => kernel_rfl
            case hrz15 => kernel_rfl
            case hwz15 => rfl
            case hyz15 => (intro w hSw; (try dsimp only at hSw); obtain ⟨e0, e1⟩ := hSw; go_simp; (try with_reducible rfl))
            try simp only [Act.put, List.setIfInBounds_toArray, List.set_cons_zero, List.set_cons_succ]
            refine wpAnyH_done (by kernel_rfl) ?_ _
            go_wp2_with fail
            go_region
            go_wp2_with fail
            go_roundw
            case rel => exact ⟨jj, _, by omega, by go_num, HPP.out, HSB2.out, HO2.out, by simpa using hsz2, HBL.out.drew.drew, HOT3.out⟩
            case measure => simp [intOf]
          · have hdec : decide (a < b) = false := decide_eq_false hab
            have hend := fin (.inr (by rw [Nat.add_sub_cancel, ha, hb']; omega))
            have HP2 := Lib.hid hp; have HO2 := Lib.hid ho; have HB2 := Lib.hid hb; have HEND := Lib.hid hend
            clear ho hb hp hsb fin hend
            go_wp2_with fail
            refine wp_region_held_drew (S := fun W => W.cell? (vat v (jj + 1)) = some (.int .i64 a) ∧ W.cell? (vat v jj) = some (.int .i64 b)) (by kernel_rfl) (⟨c0, c1⟩) (fun hHeld => ?_)
            refine' wpAnyH_take (i := 0) (oi := ?oiz16) (v := ?vz16) ?haz16 (by kernel_rfl) ?hfz16 ?hrz16 ?hQz16 (Or.inl ⟨?hwz16, ?hyz16⟩) (by assumption) ?restz16
            case haz16 => (simp only [List.getElem?_toArray, List.getElem?_cons_zero]; exact rfl)
            case hQz16 => exact fun _ _ _ h => h
            case hfz16 => kernel_rfl
            case hrz16 => kernel_rfl
            case hwz16 => rfl
            case hyz16 => (intro w hSw; (try dsimp only at hSw); obtain ⟨e0, e1⟩ := hSw; go_simp; (try with_reducible rfl))
            try simp only [Act.put, List.setIfInBounds_toArray, List.set_cons_zero, List.set_cons_succ]
            refine' wpAnyH_take (i := 1) (oi := ?oiz17) (v := ?vz17) ?haz17 (by kernel_rfl) ?hfz17 ?hrz17 ?hQz17 (Or.inl ⟨?hwz17, ?hyz17⟩) (by assumption) ?restz17
            case haz17 => (simp only [List.getElem?_toArray, List.getElem?_cons_succ, List.getElem?_cons_zero]; exact rfl)
            case hQz17 => exact fun _ _ _ h => h
            case hfz17 => kernel_rfl
            case hrz17 => kernel_rfl
            case hwz17 => rfl
            case hyz17 => (intro w hSw; (try dsimp only at hSw); obtain ⟨e0, e1⟩ := hSw; go_simp; (try with_reducible rfl))
            try simp only [Act.put, List.setIfInBounds_toArray, List.set_cons_zero, List.set_cons_succ]
            refine' wpAnyH_take (i := 2) (oi := ?oiz18) (v := ?vz18) ?haz18 (by kernel_rfl) ?hfz18 ?hrz18 ?hQz18 (Or.inl ⟨?hwz18, ?hyz18⟩) (by assumption) ?restz18
            case haz18 => (simp only [List.getElem?_toArray, List.getElem?_cons_succ, List.getElem?_cons_zero]; exact rfl)
            case hQz18 => exact fun _ _ _ h => h
            case hfz18 => kernel_rfl
            case hrz18 => kernel_rfl
            case hwz18 => rfl
            case hyz18 => (intro w hSw; (try dsimp only at hSw); obtain ⟨e0, e1⟩ := hSw; go_simp; (try with_reducible rfl))
            try simp only [Act.put, List.setIfInBounds_toArray, List.set_cons_zero, List.set_cons_succ]
            refine' wpAnyH_take (i := 3) (oi := ?oiz19) (v := ?vz19) ?haz19 (by kernel_rfl) ?hfz19 ?hrz19 ?hQz19 (Or.inl ⟨?hwz19, ?hyz19⟩) (by assumption) ?restz19
            case haz19 => (simp only [List.getElem?_toArray, List.getElem?_cons_succ, List.getElem?_cons_zero]; exact rfl)
            case hQz19 => exact fun _ _ _ h => h
            case hfz19 => kernel_rfl
            case hrz19 => kernel_rfl
            case hwz19 => rfl
            case hyz19 => (intro w hSw; (try dsimp only at hSw); obtain ⟨e0, e1⟩ := hSw; go_simp; (try with_reducible rfl))
            try simp only [Act.put, List.setIfInBounds_toArray, List.set_cons_zero, List.set_cons_succ]
            refine' wpAnyH_take (i := 4) (oi := ?oiz20) (v := ?vz20) ?haz20 (by kernel_rfl) ?hfz20 ?hrz20 ?hQz20 (Or.inl ⟨?hwz20, ?hyz20⟩) (by assumption) ?restz20
            case haz20 => (simp only [List.getElem?_toArray, List.getElem?_cons_succ, List.getElem?_cons_zero]; exact rfl)
            case hQz20 => exact fun _ _ _ h => h
            case hfz20 => kernel_rfl
            case hrz20 => kernel_rfl
            case hwz20 => rfl
            case hyz20 => (intro w hSw; (try dsimp only at hSw); obtain ⟨e0, e1⟩ := hSw; go_simp; (try with_reducible rfl))
            try simp only [Act.put, List.setIfInBounds_toArray, List.set_cons_zero, List.set_cons_succ]
            refine' wpAnyH_take (i := 5) (oi := ?oiz21) (v := ?vz21) ?haz21 (by kernel_rfl) ?hfz21 ?hrz21 ?hQz21 (Or.inl ⟨?hwz21, ?hyz21⟩) (by assumption) ?restz21
            case haz21 => (simp only [List.getElem?_toArray, List.getElem?_cons_succ, List.getElem?_cons_zero]; exact rfl)
            case hQz21 => exact fun _ _ _ h => h
            case hfz21 => kernel_rfl
            case hrz21 => kernel_rfl
            case hwz21 => rfl
            case hyz21 => (intro w hSw; (try dsimp only at hSw); obtain ⟨e0, e1⟩ := hSw; go_simp; (try with_reducible rfl))
            try simp only [Act.put, List.setIfInBounds_toArray, List.set_cons_zero, List.set_cons_succ]
            refine' wpAnyH_take (i := 6) (oi := ?oiz22) (v := ?vz22) ?haz22 (by kernel_rfl) ?hfz22 ?hrz22 ?hQz22 (Or.inl ⟨?hwz22, ?hyz22⟩) (by assumption) ?restz22
            case haz22 => (simp only [List.getElem?_toArray, List.getElem?_cons_succ, List.getElem?_cons_zero]; exact rfl)
            case hQz22 => exact fun _ _ _ h => h
            case hfz22 => kernel_rfl
            case hrz22 => kernel_rfl
            case hwz22 => rfl
            case hyz22 => (intro w hSw; (try dsimp only at hSw); obtain ⟨e0, e1⟩ := hSw; go_simp; (try with_reducible rfl))
            try simp only [Act.put, List.setIfInBounds_toArray, List.set_cons_zero, List.set_cons_succ]
            refine' wpAnyH_take (i := 7) (oi := ?oiz23) (v := ?vz23) ?haz23 (by kernel_rfl) ?hfz23 ?hrz23 ?hQz23 (Or.inl ⟨?hwz23, ?hyz23⟩) (by assumption) ?restz23
            case haz23 => (simp only [List.getElem?_toArray, List.getElem?_cons_succ, List.getElem?_cons_zero]; exact rfl)
            case hQz23 => exact fun _ _ _ h => h
            case hfz23 => kernel_rfl
            case hrz23 => kernel_rfl
            case hwz23 => rfl
            case hyz23 => (intro w hSw; (try dsimp only at hSw); obtain ⟨e0, e1⟩ := hSw; go_simp; (try with_reducible rfl))
            try simp only [Act.put, List.setIfInBounds_toArray, List.set_cons_zero, List.set_cons_succ]
            refine' wpAnyH_take (i := 8) (oi := ?oiz24) (v := ?vz24) ?haz24 (by kernel_rfl) ?hfz24 ?hrz24 ?hQz24 (Or.inl ⟨?hwz24, ?hyz24⟩) (by assumption) ?restz24
            case haz24 => (simp only [List.getElem?_toArray, List.getElem?_cons_succ, List.getElem?_cons_zero]; exact rfl)
            case hQz24 => exact fun _ _ _ h => h
            case hfz24 => kernel_rfl
            case hrz24 => kernel_rfl
            case hwz24 => rfl
            case hyz24 => (intro w hSw; (try dsimp only at hSw); obtain ⟨e0, e1⟩ := hSw; go_simp; (try with_reducible rfl))
            try simp only [Act.put, List.setIfInBounds_toArray, List.set_cons_zero, List.set_cons_succ]
            refine' wpAnyH_take (i := 9) (oi := ?oiz25) (v := ?vz25) ?haz25 (by kernel_rfl) ?hfz25 ?hrz25 ?hQz25 (Or.inl ⟨?hwz25, ?hyz25⟩) (by assumption) ?restz25
            case haz25 => (simp only [List.getElem?_toArray, List.getElem?_cons_succ, List.getElem?_cons_zero]; exact rfl)
            case hQz25 => exact fun _ _ _ h => h
            case hfz25 => kernel_rfl
            case hrz25 => kernel_rfl
            case hwz25 => rfl
            case hyz25 => (intro w hSw; (try dsimp only at hSw); obtain ⟨e0, e1⟩ := hSw; go_simp; (try with_reducible rfl))
            try simp only [Act.put, List.setIfInBounds_toArray, List.set_cons_zero, List.set_cons_succ]
            refine' wpAnyH_take (i := 10) (oi := ?oiz26) (v := ?vz26) ?haz26 (by kernel_rfl) ?hfz26 ?hrz26 ?hQz26 (Or.inl ⟨?hwz26, ?hyz26⟩) (by assumption) ?restz26
            case haz26 => (simp only [List.getElem?_toArray, List.getElem?_cons_succ, List.getElem?_cons_zero]; exact rfl)
            case hQz26 => exact fun _ _ _ h => h
            case hfz26 => kernel_rfl
            case hrz26 => kernel_rfl
            case hwz26 => rfl
            case hyz26 => (intro w hSw; (try dsimp only at hSw); obtain ⟨e0, e1⟩ := hSw; go_simp; (try with_reducible rfl))
            try simp only [Act.put, List.setIfInBounds_toArray, List.set_cons_zero, List.set_cons_succ]
            refine' wpAnyH_take (i := 11) (oi := ?oiz27) (v := ?vz27) ?haz27 (by kernel_rfl) ?hfz27 ?hrz27 ?hQz27 (Or.inl ⟨?hwz27, ?hyz27⟩) (by assumption) ?restz27
            case haz27 => (simp only [List.getElem?_toArray, List.getElem?_cons_succ, List.getElem?_cons_zero]; exact rfl)
            case hQz27 => exact fun _ _ _ h => h
            case hfz27 => kernel_rfl
            case hrz27 => kernel_rfl
            case hwz27 => rfl
            case hyz27 => (intro w hSw; (try dsimp only at hSw); obtain ⟨e0, e1⟩ := hSw; go_simp; (try with_reducible rfl))
            try simp only [Act.put, List.setIfInBounds_toArray, List.set_cons_zero, List.set_cons_succ]
            refine' wpAnyH_take (i := 12) (oi := ?oiz28) (v := ?vz28) ?haz28 (by kernel_rfl) ?hfz28 ?hrz28 ?hQz28 (Or.inl ⟨?hwz28, ?hyz28⟩) (by assumption) ?restz28
            case haz28 => (simp only [List.getElem?_toArray, List.getElem?_cons_succ, List.getElem?_cons_zero]; exact rfl)
            case hQz28 => exact fun _ _ _ h => h
            case hfz28 => kernel_rfl
            case hrz28 => kernel_rfl
            case hwz28 => rfl
            case hyz28 => (intro w hSw; (try dsimp only at hSw); obtain ⟨e0, e1⟩ := hSw; go_simp; (try with_reducible rfl))
            try simp only [Act.put, List.setIfInBounds_toArray, List.set_cons_zero, List.set_cons_succ]
            refine wpAnyH_ready (rs := [13]) (by kernel_rfl) (by simp) ?_
            refine' AllReadyH.cons (o := ?oiz29) ?haz29 (fun K hK => ?stepz29) AllReadyH.nil
            case haz29 => (simp only [List.getElem?_toArray, List.getElem?_cons_succ, List.getElem?_cons_zero]; exact rfl)
            go_simp
            go_at_call 169
            refine (less_calls _ _ _).mono ?_
            rintro e w' ⟨rfl, rfl⟩
            refine hK.out _ _ (hHeld) (fun hHeld => ?_)
            clear hK K
            try simp only [Act.put, List.setIfInBounds_toArray, List.set_cons_zero, List.set_cons_succ]
            refine' wpAnyH_take (i := 14) (oi := ?oiz30) (v := ?vz30) ?haz30 (by kernel_rfl) ?hfz30 ?hrz30 ?hQz30 (Or.inl ⟨?hwz30, ?hyz30⟩) (by assumption) ?restz30
            case haz30 => (simp only [List.getElem?_toArray, List.getElem?_cons_succ, List.getElem?_cons_zero]; exact rfl)
            case hQz30 => exact fun _ _ _ h => h
            case hfz30 => kernel_rfl
            case hrz30 => kernel_rfl
            case hwz30 => rfl
            case hyz30 => (intro w hSw; (try dsimp only at hSw); obtain ⟨e0, e1⟩ := hSw; go_simp; (try with_reducible rfl))
            try simp only [Act.put, List.setIfInBounds_toArray, List.set_cons_zero, List.set_cons_succ]
            refine wpAnyH_done (by kernel_rfl) ?_ _
            go_wp2_with fail
            go_roundw
            case rel => exact ⟨i + 1, zs, by omega, by omega, by go_num, HP2.out, HEND.out, HO2.out, hsz2, HB2.out.drew, HOT2.out⟩
            case measure => simp [intOf]; omega
        · obtain rfl : j = 0 := by omega
          have hend := fin (.inl rfl)
          have HP2 := Lib.hid hp; have HO2 := Lib.hid ho; have HB2 := Lib.hid hb; have HEND := Lib.hid hend
          clear ho hb hp hsb fin hend
          go_wp2_with fail
          refine wp_region_held_drew (S := fun _ => True) (by kernel_rfl) (trivial) (fun hHeld => ?_)
          refine' wpAnyH_take (i := 0) (oi := ?oiz31) (v := ?vz31) ?haz31 (by kernel_rfl) ?hfz31 ?hrz31 ?hQz31 (Or.inl ⟨?hwz31, ?hyz31⟩) (by assumption) ?restz31
          case haz31 => (simp only [List.getElem?_toArray, List.getElem?_cons_zero]; exact rfl)
          case hQz31 => exact fun _ _ _ h => h
          case hfz31 => kernel_rfl
          case hrz31 => kernel_rfl
          case hwz31 => rfl
          case hyz31 => (intro w hSw; (try dsimp only at hSw); skip; go_simp; (try with_reducible rfl))
          try simp only [Act.put, List.setIfInBounds_toArray, List.set_cons_zero, List.set_cons_succ]
          refine' wpAnyH_take (i := 1) (oi := ?oiz32) (v := ?vz32) ?haz32 (by kernel_rfl) ?hfz32 ?hrz32 ?hQz32 (Or.inl ⟨?hwz32, ?hyz32⟩) (by assumption) ?restz32
          case haz32 => (simp only [List.getElem?_toArray, List.getElem?_cons_succ, List.getElem?_cons_zero]; exact rfl)
          case hQz32 => exact fun _ _ _ h => h
          case hfz32 => kernel_rfl
          case hrz32 => kernel_rfl
          case hwz32 => rfl
          case hyz32 => (intro w hSw; (try dsimp only at hSw); skip; go_simp; (try with_reducible rfl))
          try simp only [Act.put, List.setIfInBounds_toArray, List.set_cons_zero, List.set_cons_succ]
          refine' wpAnyH_take (i := 2) (oi := ?oiz33) (v := ?vz33) ?haz33 (by kernel_rfl) ?hfz33 ?hrz33 ?hQz33 (Or.inl ⟨?hwz33, ?hyz33⟩) (by assumption) ?restz33
          case haz33 => (simp only [List.getElem?_toArray, List.getElem?_cons_succ, List.getElem?_cons_zero]; exact rfl)
          case hQz33 => exact fun _ _ _ h => h
          case hfz33 => kernel_rfl
          case hrz33 => kernel_rfl
          case hwz33 => rfl
          case hyz33 => (intro w hSw; (try dsimp only at hSw); skip; go_simp; (try with_reducible rfl))
          try simp only [Act.put, List.setIfInBounds_toArray, List.set_cons_zero, List.set_cons_succ]
          refine' wpAnyH_take (i := 3) (oi := ?oiz34) (v := ?vz34) ?haz34 (by kernel_rfl) ?hfz34 ?hrz34 ?hQz34 (Or.inl ⟨?hwz34, ?hyz34⟩) (by assumption) ?restz34
          case haz34 => (simp only [List.getElem?_toArray, List.getElem?_cons_succ, List.getElem?_cons_zero]; exact rfl)
          case hQz34 => exact fun _ _ _ h => h
          case hfz34 => kernel_rfl
          case hrz34 => kernel_rfl
          case hwz34 => rfl
          case hyz34 => (intro w hSw; (try dsimp only at hSw); skip; go_simp; (try with_reducible rfl))
          try simp only [Act.put, List.setIfInBounds_toArray, List.set_cons_zero, List.set_cons_succ]
          refine' wpAnyH_take (i := 4) (oi := ?oiz35) (v := undef) ?haz35 (by kernel_rfl) ?hfz35 ?hrz35 ?hQz35 (Or.inr ⟨?hwz35, rfl⟩) (by assumption) ?restz35
          case haz35 => (simp only [List.getElem?_toArray, List.getElem?_cons_succ, List.getElem?_cons_zero]; exact rfl)
          case hQz35 => exact fun _ _ _ h => h
          case hfz35 => kernel_rfl
          case hrz35 => kernel_rfl
          case hwz35 => rfl
          try simp only [Act.put, List.setIfInBounds_toArray, List.set_cons_zero, List.set_cons_succ]
          refine' wpAnyH_take (i := 5) (oi := ?oiz36) (v := undef) ?haz36 (by kernel_rfl) ?hfz36 ?hrz36 ?hQz36 (Or.inr ⟨?hwz36, rfl⟩) (by assumption) ?restz36
          case haz36 => (simp only [List.getElem?_toArray, List.getElem?_cons_succ, List.getElem?_cons_zero]; exact rfl)
          case hQz36 => exact fun _ _ _ h => h
          case hfz36 => kernel_rfl
          case hrz36 => kernel_rfl
          case hwz36 => rfl
          try simp only [Act.put, List.setIfInBounds_toArray, List.set_cons_zero, List.set_cons_succ]
          refine' wpAnyH_take (i := 6) (oi := ?oiz37) (v := undef) ?haz37 (by kernel_rfl) ?hfz37 ?hrz37 ?hQz37 (Or.inr ⟨?hwz37, rfl⟩) (by assumption) ?restz37
          case haz37 => (simp only [List.getElem?_toArray, List.getElem?_cons_succ, List.getElem?_cons_zero]; exact rfl)
          case hQz37 => exact fun _ _ _ h => h
          case hfz37 => kernel_rfl
          case hrz37 => kernel_rfl
          case hwz37 => rfl
          try simp only [Act.put, List.setIfInBounds_toArray, List.set_cons_zero, List.set_cons_succ]
          refine' wpAnyH_take (i := 7) (oi := ?oiz38) (v := undef) ?haz38 (by kernel_rfl) ?hfz38 ?hrz38 ?hQz38 (Or.inr ⟨?hwz38, rfl⟩) (by assumption) ?restz38
          case haz38 => (simp only [List.getElem?_toArray, List.getElem?_cons_succ, List.getElem?_cons_zero]; exact rfl)
          case hQz38 => exact fun _ _ _ h => h
          case hfz38 => kernel_rfl
          case hrz38 => kernel_rfl
          case hwz38 => rfl
          try simp only [Act.put, List.setIfInBounds_toArray, List.set_cons_zero, List.set_cons_succ]
          refine' wpAnyH_take (i := 8) (oi := ?oiz39) (v := undef) ?haz39 (by kernel_rfl) ?hfz39 ?hrz39 ?hQz39 (Or.inr ⟨?hwz39, rfl⟩) (by assumption) ?restz39
          case haz39 => (simp only [List.getElem?_toArray, List.getElem?_cons_succ, List.getElem?_cons_zero]; exact rfl)
          case hQz39 => exact fun _ _ _ h => h
          case hfz39 => kernel_rfl
          case hrz39 => kernel_rfl
          case hwz39 => rfl
          try simp only [Act.put, List.setIfInBounds_toArray, List.set_cons_zero, List.set_cons_succ]
          refine' wpAnyH_take (i := 9) (oi := ?oiz40) (v := undef) ?haz40 (by kernel_rfl) ?hfz40 ?hrz40 ?hQz40 (Or.inr ⟨?hwz40, rfl⟩) (by assumption) ?restz40
          case haz40 => (simp only [List.getElem?_toArray, List.getElem?_cons_succ, List.getElem?_cons_zero]; exact rfl)
          case hQz40 => exact fun _ _ _ h => h
          case hfz40 => kernel_rfl
          case hrz40 => kernel_rfl
          case hwz40 => rfl
          try simp only [Act.put, List.setIfInBounds_toArray, List.set_cons_zero, List.set_cons_succ]
          refine' wpAnyH_take (i := 10) (oi := ?oiz41) (v := undef) ?haz41 (by kernel_rfl) ?hfz41 ?hrz41 ?hQz41 (Or.inr ⟨?hwz41, rfl⟩) (by assumption) ?restz41
          case haz41 => (simp only [List.getElem?_toArray, List.getElem?_cons_succ, List.getElem?_cons_zero]; exact rfl)
          case hQz41 => exact fun _ _ _ h => h
          case hfz41 => kernel_rfl
          case hrz41 => kernel_rfl
          case hwz41 => rfl
          try simp only [Act.put, List.setIfInBounds_toArray, List.set_cons_zero, List.set_cons_succ]
          refine' wpAnyH_take (i := 11) (oi := ?oiz42) (v := undef) ?haz42 (by kernel_rfl) ?hfz42 ?hrz42 ?hQz42 (Or.inr ⟨?hwz42, rfl⟩) (by assumption) ?restz42
          case haz42 => (simp only [List.getElem?_toArray, List.getElem?_cons_succ, List.getElem?_cons_zero]; exact rfl)
          case hQz42 => exact fun _ _ _ h => h
          case hfz42 => kernel_rfl
          case hrz42 => kernel_rfl
          case hwz42 => rfl
          try simp only [Act.put, List.setIfInBounds_toArray, List.set_cons_zero, List.set_cons_succ]
          refine' wpAnyH_take (i := 12) (oi := ?oiz43) (v := undef) ?haz43 (by kernel_rfl) ?hfz43 ?hrz43 ?hQz43 (Or.inr ⟨?hwz43, rfl⟩) (by assumption) ?restz43
          case haz43 => (simp only [List.getElem?_toArray, List.getElem?_cons_succ, List.getElem?_cons_zero]; exact rfl)
          case hQz43 => exact fun _ _ _ h => h
          case hfz43 => kernel_rfl
          case hrz43 => kernel_rfl
          case hwz43 => rfl
          try simp only [Act.put, List.setIfInBounds_toArray, List.set_cons_zero, List.set_cons_succ]
          refine' wpAnyH_take (i := 13) (oi := ?oiz44) (v := undef) ?haz44 (by kernel_rfl) ?hfz44 ?hrz44 ?hQz44 (Or.inr ⟨?hwz44, rfl⟩) (by assumption) ?restz44
          case haz44 => (simp only [List.getElem?_toArray, List.getElem?_cons_succ, List.getElem?_cons_zero]; exact rfl)
          case hQz44 => exact fun _ _ _ h => h
          case hfz44 => kernel_rfl
          case hrz44 => kernel_rfl
          case hwz44 => rfl
          try simp only [Act.put, List.setIfInBounds_toArray, List.set_cons_zero, List.set_cons_succ]
          refine' wpAnyH_take (i := 14) (oi := ?oiz45) (v := ?vz45) ?haz45 (by kernel_rfl) ?hfz45 ?hrz45 ?hQz45 (Or.inl ⟨?hwz45, ?hyz45⟩) (by assumption) ?restz45
          case haz45 => (simp only [List.getElem?_toArray, List.getElem?_cons_succ, List.getElem?_cons_zero]; exact rfl)
          case hQz45 => exact fun _ _ _ h => h
          case hfz45 => kernel_rfl
          case hrz45 => kernel_rfl
          case hwz45 => rfl
          case hyz45 => (intro w hSw; (try dsimp only at hSw); skip; go_simp; (try with_reducible rfl))
          try simp only [Act.put, List.setIfInBounds_toArray, List.set_cons_zero, List.set_cons_succ]
          refine wpAnyH_done (by kernel_rfl) ?_ _
          go_wp2_with fail
          go_roundw
          case rel => exact ⟨i + 1, zs, by omega, by omega, by go_num, HP2.out, HEND.out, HO2.out, hsz2, HB2.out.drew, HOT2.out⟩
          case measure => simp [intOf]; omega
    · have hend : SortedL ys := fun p q h1 h2 => by
        have hyl : ys.length = L := hp.length_eq.trans HL.out
        exact hso p q h1 (by omega) (by omega)
      have HP2 := Lib.hid hp; have HO2 := Lib.hid ho; have HB2 := Lib.hid hb; have HEND := Lib.hid hend
      clear ho hb hp hso hend
      go_wp2_with fail
      go_end0
      exact ⟨⟨_, rfl⟩, ys, HP2.out, HEND.out, HO2.out, hsz, HB2.out, HOTH.out⟩

set_option maxRecDepth 100000 in
theorem pdq_calls (v : Value) (xs : List Int) (B : Nat) (k : Int) (w : World) (hv : OwnI w B v xs) (hl : xs.length ≤ 12) (hBw : B ≤ w.heap.size) :
    Calls Try.prog 153 #[v, .int .i64 0, .int .i64 xs.length, .int .i64 k] w fun e w' => (∃ u, e = .returned u) ∧ ∃ ys, ys.Perm xs ∧ SortedL ys ∧ OwnI w' B v ys ∧ w'.heap.size = w.heap.size ∧ Below B w w' ∧ (∀ b, row v ≠ some b → w'.heap[b]? = w.heap[b]?) := by
  have sv := hv.isSl
  have HI := Lib.hid (insertionSort_calls v xs B w hv (by omega) hBw)
  have hL : (xs.length : Int) ≤ 12 := by omega
  have hw : IntKind.i64.wrap ((xs.length : Int) - 0) = xs.length := by rw [Int.sub_zero]; exact IntWalk.i64_in _ ⟨by omega, by omega⟩
  clear hv
  go_enter Try.func153, Try.ntmps153
  go_wp2_with fail
  go_loopw [1, 2] (fun a b wr => a = .int .i64 0 ∧ b = .int .i64 xs.length ∧ wr = w) (fun _ _ _ => 0)
  case atStart => exact ⟨rfl, rfl, rfl⟩
  case round =>
    obtain ⟨rfl, rfl, rfl⟩ := hrel
    go_wp2_with fail
    refine HI.out.mono ?_
    rintro e w1 ⟨⟨u, rfl⟩, h⟩
    have H := Lib.hid h
    clear h
    go_wp2_with fail
    (try simp only [Exit.inBlock, Exit.then])
    refine bodyPost_ret (results_none rfl _ _ _) rfl ?_
    exact ⟨⟨_, rfl⟩, H.out⟩

set_option maxRecDepth 100000 in
theorem sort_calls (v : Value) (xs : List Int) (B : Nat) (w : World) (hv : OwnI w B v xs) (hl : xs.length ≤ 12) (hBw : B ≤ w.heap.size) :
    Calls Try.prog 127 #[v] w fun e w' => (∃ u, e = .returned u) ∧ ∃ ys, ys.Perm xs ∧ SortedL ys ∧ OwnI w' B v ys ∧ w'.heap.size = w.heap.size ∧ Below B w w' ∧ (∀ b, row v ≠ some b → w'.heap[b]? = w.heap[b]?) := by
  have sv := hv.isSl
  have lv := hv.len
  have HI := Lib.hid (fun k => pdq_calls v xs B k w hv hl hBw)
  have hL : (xs.length : Int) ≤ 12 := by omega
  have hu : IntKind.u64.wrap (xs.length : Int) = xs.length := by rw [IntKind.wrap_u64]; omega
  clear hv
  go_enter Try.func127, Try.ntmps127
  go_wp2_with fail
  refine (len_calls xs.length hl _).mono ?_
  rintro e w' ⟨⟨k, rfl⟩, rfl⟩
  go_wp2_with fail
  refine (HI.out k).mono ?_
  rintro e w1 ⟨⟨u, rfl⟩, h⟩
  have H := Lib.hid h
  clear h
  go_wp2_with fail
  go_end0
  exact ⟨⟨_, rfl⟩, H.out⟩

end Go.Proofs.Ytplekfgadbjgdaa


/- slices.IndexFunc and ContainsFunc over rows; the closures of permgroup.orbits and StabilizerOrder: is a point in a row. -/
import Derived.Test.YtplekfgadbjgdaaQGroupOrbitStabilizer0
import Derived.Test.YtplekfgadbjgdaaQGroupOrbitStabilizer1
import Derived.Test.YtplekfgadbjgdaaQGroupOrbitStabilizer2
import Derived.Test.YtplekfgadbjgdaaQGroupOrbitStabilizer3
import Derived.Test.YtplekfgadbjgdaaQGroupOrbitStabilizer4
import Derived.Test.YtplekfgadbjgdaaQGroupOrbitStabilizer5
import Derived.Test.YtplekfgadbjgdaaQGroupOrbitStabilizer6
import Derived.Test.YtplekfgadbjgdaaQGroupOrbitStabilizer8
import Derived.Test.YtplekfgadbjgdaaQGroupOrbitStabilizer9
import Derived.Shelf.Abstract
namespace Go.Proofs.Ytplekfgadbjgdaa
open Go.RowKit Go.Sl

/-- A variable in its box. -/
def CelO (w : World) (b : Nat) (v : Value) (t : TypeId) : Prop := w.heap[b]? = some (.cells #[v] t (0, 0))
section
variable {w w' : World} {b : Nat} {v : Value} {t : TypeId}
theorem CelO.lt (h : CelO w b v t) : b < w.heap.size := (Array.getElem?_eq_some_iff.1 h).1
theorem CelO.cell (h : CelO w b v t) : w.cell? ⟨b, 0, none⟩ = some v := cell_of_one h
theorem CelO.free (h : CelO w b v t) : w.frozen? ⟨b, 0, none⟩ = false := free_of_one h
theorem CelO.below (h : CelO w b v t) (hb : Below w.heap.size w w') : CelO w' b v t := (hb.block _ h.lt).trans h
theorem CelO.set (h : CelO w b v t) (u : Value) : CelO (w.setCell ⟨b, 0, none⟩ u) b u t := one_setCell h
end
theorem ro_nilO (w : World) (B : Nat) : RO w B (.slice none 0 0) [] [] := ⟨own_nil _ _ _ _, rfl, fun i hi => by simp at hi, fun i hi => by simp at hi, fun i hi => by simp at hi, fun i j _ hj => by simp at hj⟩
/-- A row more: what append leaves. -/
theorem ro_push {w w' : World} {B : Nat} {v r v' : Value} {vs : List Value} {xss : List (List Int)} {ys : List Int} (hown : RO w B v vs xss) (hy : OwnI w B r ys) (h0 : 0 < ys.length)
    (hap : Go.Sl.row v ≠ some (vblk r)) (hea : ∀ i, i < xss.length → vblk (nthv vs i) ≠ vblk r) (h1 : Go.Sl.Own w' B 22 1 v' (vs ++ [r])) (hg : w.grownBy w' (Go.Sl.row v)) (hfr : ∀ k, Go.Sl.row v' = some k → Go.Sl.row v = some k ∨ w.heap.size ≤ k) : RO w' B v' (vs ++ [r]) (xss ++ [ys]) := by
  have hvl := hown.len
  have hnv : ∀ i, i < xss.length → nthv (vs ++ [r]) i = nthv vs i ∧ nthr (xss ++ [ys]) i = nthr xss i := by
    intro i hi
    simp [nthv, nthr, List.getElem?_append, hvl, hi]
  have hlast : nthv (vs ++ [r]) xss.length = r ∧ nthr (xss ++ [ys]) xss.length = ys := by
    simp [nthv, nthr, hvl]
  have hrr : Go.Sl.row r = some (vblk r) := row_some (by have := hy.ints.cap; omega)
  have hrl := (hy.lt _ hrr).2
  refine ⟨h1, by simp [hvl], fun i hi => ?_, fun i hi => ?_, fun i hi e => ?_, fun i j hij hj => ?_⟩
  · simp only [List.length_append, List.length_cons, List.length_nil] at hi
    rcases Nat.lt_or_ge i xss.length with hlt | hge
    · rw [(hnv i hlt).1, (hnv i hlt).2]
      refine Go.Sl.Own.grown (hown.row i hlt) hg fun k hk e => ?_
      rw [hown.rowAt hlt] at hk
      exact hown.apart i hlt (by rw [e, hk])
    · obtain rfl : i = xss.length := by omega
      rw [hlast.1, hlast.2]
      refine Go.Sl.Own.grown hy hg fun k hk e => ?_
      rw [hrr] at hk
      exact hap (by rw [e, hk])
  · simp only [List.length_append, List.length_cons, List.length_nil] at hi
    rcases Nat.lt_or_ge i xss.length with hlt | hge
    · rw [(hnv i hlt).2]; exact hown.pos i hlt
    · obtain rfl : i = xss.length := by omega
      rw [hlast.2]; exact h0
  · simp only [List.length_append, List.length_cons, List.length_nil] at hi
    rcases Nat.lt_or_ge i xss.length with hlt | hge
    · rw [(hnv i hlt).1] at e
      rcases hfr _ e with h4 | h4
      · exact hown.apart i hlt h4
      · have := (hown.blk hlt).2; omega
    · obtain rfl : i = xss.length := by omega
      rw [hlast.1] at e
      rcases hfr _ e with h4 | h4
      · exact hap h4
      · omega
  · simp only [List.length_append, List.length_cons, List.length_nil] at hj
    rw [(hnv i (by omega)).1]
    rcases Nat.lt_or_ge j xss.length with hlt | hge
    · rw [(hnv j hlt).1]; exact hown.each i j hij hlt
    · obtain rfl : j = xss.length := by omega
      rw [hlast.1]; exact hea i hij
/-- What is stored elsewhere changes no own rows. -/
theorem RO.setOther {w : World} {B : Nat} {v : Value} {vs : List Value} {xss : List (List Int)} (h : RO w B v vs xss) {b : Nat} (hb : b < B) (u : Value) : RO (w.setCell ⟨b, 0, none⟩ u) B v vs xss :=
  ⟨h.own.setOther (fun k hk => by have := (h.own.lt k hk).1; show b ≠ k; omega) u, h.len, fun i hi => (h.row i hi).setOther (fun k hk => by have := ((h.row i hi).lt k hk).1; show b ≠ k; omega) u, h.pos, h.apart, h.each⟩

/-- Is a point in a row: the closures. -/
theorem inRow_calls (v : Value) (xs : List Int) (x : Int) (b : Nat) (w : World) (hv : Ints w v xs) (hc : CelO w b (.int .i64 x) 3) :
    Calls Try.prog 126 #[v, .pointer (some ⟨b, 0, none⟩)] w fun e w' => e = .returned (.bool (decide (x ∈ xs))) ∧ w = w' := by
  have sv := hv.isSl
  have kc := hc.cell
  have HV := Lib.hid hv
  clear hv hc
  go_enter Try.func126, Try.ntmps126
  go_wp2_with fail
  refine (contains_calls v xs x _ HV.out).mono ?_
  rintro e w' ⟨rfl, rfl⟩
  go_wp2_with fail
  go_ret
  exact ⟨rfl, rfl⟩
theorem inRowS_calls (v : Value) (xs : List Int) (x : Int) (b : Nat) (w : World) (hv : Ints w v xs) (hc : CelO w b (.int .i64 x) 3) :
    Calls Try.prog 90 #[v, .pointer (some ⟨b, 0, none⟩)] w fun e w' => e = .returned (.bool (decide (x ∈ xs))) ∧ w = w' := by
  have sv := hv.isSl
  have kc := hc.cell
  have HV := Lib.hid hv
  clear hv hc
  go_enter Try.func90, Try.ntmps90
  go_wp2_with fail
  refine (contains_calls v xs x _ HV.out).mono ?_
  rintro e w' ⟨rfl, rfl⟩
  go_wp2_with fail
  go_ret
  exact ⟨rfl, rfl⟩

set_option maxRecDepth 100000 in
theorem idxRows_none (v : Value) (vs : List Value) (xss : List (List Int)) (k : FuncId) (caps : Array Value) (hk : ∀ args w, (callFunc k args).run Try.prog w = .ok (.enter k args) w) (w : World) (hv : RowsV w v vs xss)
    (hf : ∀ j, j < xss.length → Calls Try.prog k (#[nthv vs j] ++ caps) w fun e w' => e = .returned (.bool false) ∧ w = w') :
    Calls Try.prog 89 #[v, .func (.func k) #[] caps] w fun e w' => e = .returned (.int .i64 (-1)) ∧ w = w' := by
  have sv := hv.isSl
  have lv := hv.len
  have i63 := sv.i63
  rw [lv] at i63
  have HV := Lib.hid hv; clear hv
  have HF := Lib.hid hf; clear hf
  go_enter Try.func89, Try.ntmps89
  go_wp2_with fail
  go_loop [8] (fun i => ∃ k : Nat, k ≤ xss.length ∧ i = .int .i64 k) (fun i => xss.length - (intOf i).toNat)
  case atStart => exact ⟨0, Nat.zero_le _, rfl⟩
  case round =>
    obtain ⟨j, hk, rfl⟩ := hrel
    by_cases hlt : j < xss.length
    · have c1 := HV.out.cell hlt
      have sr := (HV.out.row hlt).isSl
      go_wp2_with fail
      refine (HF.out _ hlt).mono ?_
      rintro e w' ⟨rfl, rfl⟩
      go_wp2_with fail
      go_round
      case rel => exact ⟨j + 1, by omega, by go_num⟩
      case measure => simp [intOf]; omega
    · go_wp2_with fail
      go_ret
      exact ⟨rfl, rfl⟩

set_option maxRecDepth 100000 in
theorem idxRows_some (v : Value) (vs : List Value) (xss : List (List Int)) (k : FuncId) (caps : Array Value) (hk : ∀ args w, (callFunc k args).run Try.prog w = .ok (.enter k args) w) (m : Nat) (w : World) (hv : RowsV w v vs xss) (hm : m < xss.length)
    (hf : ∀ j, j < m → Calls Try.prog k (#[nthv vs j] ++ caps) w fun e w' => e = .returned (.bool false) ∧ w = w')
    (hg : Calls Try.prog k (#[nthv vs m] ++ caps) w fun e w' => e = .returned (.bool true) ∧ w = w') :
    Calls Try.prog 89 #[v, .func (.func k) #[] caps] w fun e w' => e = .returned (.int .i64 m) ∧ w = w' := by
  have sv := hv.isSl
  have lv := hv.len
  have i63 := sv.i63
  rw [lv] at i63
  have HV := Lib.hid hv; clear hv
  have HF := Lib.hid hf; clear hf
  have HG := Lib.hid hg; clear hg
  go_enter Try.func89, Try.ntmps89
  go_wp2_with fail
  go_loop [8] (fun i => ∃ k : Nat, k ≤ m ∧ i = .int .i64 k) (fun i => xss.length - (intOf i).toNat)
  case atStart => exact ⟨0, Nat.zero_le _, rfl⟩
  case round =>
    obtain ⟨j, hk, rfl⟩ := hrel
    have hlt : j < xss.length := by omega
    have c1 := HV.out.cell hlt
    have sr := (HV.out.row hlt).isSl
    by_cases hjm : j < m
    · go_wp2_with fail
      refine (HF.out _ hjm).mono ?_
      rintro e w' ⟨rfl, rfl⟩
      go_wp2_with fail
      go_round
      case rel => exact ⟨j + 1, by omega, by go_num⟩
      case measure => simp [intOf]; omega
    · obtain rfl : j = m := by omega
      go_wp2_with fail
      refine HG.out.mono ?_
      rintro e w' ⟨rfl, rfl⟩
      go_wp2_with fail
      go_ret
      exact ⟨rfl, rfl⟩

theorem first_row (x : Int) (xss : List (List Int)) : (∀ j, j < xss.length → ¬ x ∈ nthr xss j) ∨ ∃ m, m < xss.length ∧ x ∈ nthr xss m ∧ ∀ j, j < m → ¬ x ∈ nthr xss j := by
  by_cases h : ∃ m, m < xss.length ∧ x ∈ nthr xss m
  · have hp : ∃ m, (m < xss.length ∧ x ∈ nthr xss m) := h
    obtain ⟨m, hm, hmin⟩ : ∃ m, (m < xss.length ∧ x ∈ nthr xss m) ∧ ∀ j, j < m → ¬ (j < xss.length ∧ x ∈ nthr xss j) := by
      obtain ⟨m, hm⟩ := hp
      induction m using Nat.strongRecOn with
      | _ m ih =>
        by_cases hh : ∃ j, j < m ∧ (j < xss.length ∧ x ∈ nthr xss j)
        · obtain ⟨j, hj, hj2⟩ := hh
          exact ih j hj hj2
        · exact ⟨m, hm, fun j hj h2 => hh ⟨j, hj, h2⟩⟩
    exact .inr ⟨m, hm.1, hm.2, fun j hj h2 => hmin j hj ⟨by omega, h2⟩⟩
  · exact .inl fun j hj hx => h ⟨j, hj, hx⟩
/-- Is a point in one of the rows. -/
def isIn (x : Int) (xss : List (List Int)) : Bool := xss.any fun o => decide (x ∈ o)
theorem isIn_iff {x : Int} {xss : List (List Int)} : isIn x xss = true ↔ ∃ o ∈ xss, x ∈ o := by simp [isIn]

set_option maxRecDepth 100000 in
theorem hasRow_calls (v : Value) (vs : List Value) (xss : List (List Int)) (x : Int) (b : Nat) (w : World) (hv : RowsV w v vs xss) (hc : CelO w b (.int .i64 x) 3) :
    Calls Try.prog 125 #[v, .func (.func 126) #[] #[.pointer (some ⟨b, 0, none⟩)]] w fun e w' => e = .returned (.bool (isIn x xss)) ∧ w = w' := by
  have hk : ∀ args w, (callFunc 126 args).run Try.prog w = .ok (.enter 126 args) w := fun args w => (Go.Proofs.enters_of Try.func126 (by kernel_rfl) rfl) args w
  rcases first_row x xss with h | ⟨m, hm, hx, hno⟩
  · have hres : isIn x xss = false := by
      rw [Bool.eq_false_iff]
      intro ht
      obtain ⟨o, ho, hxo⟩ := isIn_iff.1 ht
      obtain ⟨j, hj, rfl⟩ := List.getElem_of_mem ho
      exact h j hj (by rw [nthr_lt hj]; exact hxo)
    have HF := Lib.hid (idxRows_none v vs xss _ #[.pointer (some ⟨b, 0, none⟩)] hk w hv (fun j hj => (inRow_calls _ _ x b w (hv.row hj) hc).mono fun e w' ⟨h1, h2⟩ => ⟨by rw [h1, decide_eq_false (h j hj)], h2⟩))
    rw [hres]
    have sv := hv.isSl
    clear hv hc h hk
    go_enter Try.func125, Try.ntmps125
    go_wp2_with fail
    refine HF.out.mono ?_
    rintro e w' ⟨rfl, rfl⟩
    go_wp2_with fail
    go_ret
    exact ⟨rfl, rfl⟩
  · have hres : isIn x xss = true := isIn_iff.2 ⟨_, nthr_mem hm, hx⟩
    have HF := Lib.hid (idxRows_some v vs xss _ #[.pointer (some ⟨b, 0, none⟩)] hk m w hv hm (fun j hj => (inRow_calls _ _ x b w (hv.row (by omega)) hc).mono fun e w' ⟨h1, h2⟩ => ⟨by rw [h1, decide_eq_false (hno j hj)], h2⟩) ((inRow_calls _ _ x b w (hv.row hm) hc).mono fun e w' ⟨h1, h2⟩ => ⟨by rw [h1, decide_eq_true hx], h2⟩))
    rw [hres]
    have sv := hv.isSl
    clear hv hc hno hx hk
    go_enter Try.func125, Try.ntmps125
    go_wp2_with fail
    refine HF.out.mono ?_
    rintro e w' ⟨rfl, rfl⟩
    go_wp2_with fail
    go_ret
    exact ⟨rfl, rfl⟩

set_option maxRecDepth 100000 in
/-- The closure 'in'. -/
theorem inOrb_calls (v : Value) (vs : List Value) (xss : List (List Int)) (x : Int) (b : Nat) (w : World) (hv : RowsV w v vs xss) (hc : CelO w b v 24) :
    Calls Try.prog 124 #[.int .i64 x, .pointer (some ⟨b, 0, none⟩)] w fun e w' => e = .returned (.bool (isIn x xss)) ∧ Below w.heap.size w w' := by
  have sv := hv.isSl
  obtain ⟨W1, hW1⟩ : ∃ W, W = w.alloc (.cells #[.int .i64 x] 3) := ⟨_, rfl⟩
  have cn := (show CelO W1 w.heap.size (.int .i64 x) 3 by rw [hW1]; exact heap_alloc_new _ _)
  have b1 : Below w.heap.size w W1 := by rw [hW1]; exact (Below.refl _ _).alloc (Nat.le_refl _) _
  have co := (hc.below b1).cell
  have HF := Lib.hid (hasRow_calls v vs xss x _ W1 (hv.below b1) cn)
  have hW1' := hW1.symm
  have HB := Lib.hid b1
  clear hW1 cn b1 hv hc
  go_enter Try.func124, Try.ntmps124
  go_wp2_with fail
  refine HF.out.mono ?_
  rintro e w' ⟨rfl, rfl⟩
  go_wp2_with fail
  go_ret
  exact ⟨rfl, HB.out⟩
/-- Clip, told with what stays. -/
theorem clipB_calls (v : Value) (xs : List Int) (B : Nat) (w : World) (h : OwnI w B v xs) :
    Calls Try.prog 99 #[v] w fun e w' => ∃ v', e = .returned v' ∧ OwnI w' B v' xs ∧ Below w.heap.size w w' :=
  (clip_calls v xs B w h).mono fun _e _w' ⟨h1, v', h2, h3⟩ => ⟨v', h2, h1 ▸ h3, h1 ▸ Below.refl _ _⟩
end Go.Proofs.Ytplekfgadbjgdaa


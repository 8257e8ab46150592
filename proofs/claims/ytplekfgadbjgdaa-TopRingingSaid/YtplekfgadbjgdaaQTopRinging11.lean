/- permgroup.search: the list of found elements in memory; the word of an entry, walked. -/
import Derived.Test.YtplekfgadbjgdaaQTopRinging0
import Derived.Test.YtplekfgadbjgdaaQTopRinging1
import Derived.Test.YtplekfgadbjgdaaQTopRinging2
import Derived.Test.YtplekfgadbjgdaaQTopRinging3
import Derived.Test.YtplekfgadbjgdaaQTopRinging4
import Derived.Test.YtplekfgadbjgdaaQTopRinging5
import Derived.Test.YtplekfgadbjgdaaQTopRinging8
import Derived.Test.YtplekfgadbjgdaaQTopRinging9
import Derived.Test.YtplekfgadbjgdaaQTopRinging10

namespace Go.Proofs.Ytplekfgadbjgdaa
open Go.RowKit Go.Sl

theorem wayAt_succ (x : Way) (F : List Way) (b : Nat) : wayAt (x :: F) (b + 1) = wayAt F b := by unfold wayAt; simp
theorem wayAt_zero (x : Way) (F : List Way) : wayAt (x :: F) 0 = x := by unfold wayAt; simp
def wcs : List Value → List Way → List Value
  | v :: vs, x :: F => v :: .int .i64 x.fr :: .int .i64 x.lt :: wcs vs F
  | _, _ => []
theorem wcs_length : ∀ (vs : List Value) (F : List Way), vs.length = F.length → (wcs vs F).length = F.length * 3
  | [], [], _ => rfl
  | v :: vs, x :: F, h => by
    have := wcs_length vs F (by simpa using h)
    simp only [wcs, List.length_cons, this]; omega
theorem wcs_get : ∀ (vs : List Value) (F : List Way), vs.length = F.length → ∀ j, j < F.length → (wcs vs F)[j * 3]? = some (nthv vs j) ∧ (wcs vs F)[j * 3 + 1]? = some (.int .i64 (wayAt F j).fr) ∧ (wcs vs F)[j * 3 + 2]? = some (.int .i64 (wayAt F j).lt)
  | [], [], _, j, hj => absurd hj (by simp)
  | v :: vs, x :: F, h, 0, hj => by rw [wayAt_zero]; simp [wcs, nthv]
  | v :: vs, x :: F, h, j + 1, hj => by
    have := wcs_get vs F (by simpa using h) j (by simpa using hj)
    rw [wayAt_succ, show (j + 1) * 3 = j * 3 + 3 by omega, show j * 3 + 3 + 1 = (j * 3 + 1) + 3 by omega, show j * 3 + 3 + 2 = (j * 3 + 2) + 3 by omega]
    simpa [wcs, nthv] using this
theorem wcs_append : ∀ (vs : List Value) (F : List Way), vs.length = F.length → ∀ (v : Value) (x : Way), wcs vs F ++ [v, .int .i64 x.fr, .int .i64 x.lt] = wcs (vs ++ [v]) (F ++ [x])
  | [], [], _, _, _ => rfl
  | v :: vs, y :: F, h, u, x => by
    have := wcs_append vs F (by simpa using h) u x
    simp only [wcs, List.cons_append, this]
/-- The variable found. -/
structure FndM (w : World) (B fb : Nat) (fv : Value) (vs : List Value) (F : List Way) : Prop where
  box : w.heap[fb]? = some (.cells #[fv] 139 (0, 0))
  own : Go.Sl.Own w B 138 3 fv (wcs vs F)
  len : vs.length = F.length
  row : ∀ b, b < F.length → OwnI w B (nthv vs b) (wayAt F b).p
section
variable {w w' : World} {B fb : Nat} {fv : Value} {vs : List Value} {F : List Way}
theorem FndM.lt (h : FndM w B fb fv vs F) : fb < w.heap.size := (Array.getElem?_eq_some_iff.1 h.box).1
theorem FndM.cell (h : FndM w B fb fv vs F) : w.cell? ⟨fb, 0, none⟩ = some fv := cell_of_one h.box
theorem FndM.free (h : FndM w B fb fv vs F) : w.frozen? ⟨fb, 0, none⟩ = false := free_of_one h.box
theorem FndM.below (h : FndM w B fb fv vs F) (hb : Below w.heap.size w w') : FndM w' B fb fv vs F := ⟨(hb.block _ h.lt).trans h.box, h.own.below hb, h.len, fun b hl => (h.row b hl).below hb⟩
theorem FndM.vlen (h : FndM w B fb fv vs F) : vlen fv = F.length := by
  have := h.own.2.1
  rw [wcs_length _ _ h.len] at this
  omega
theorem FndM.at0 (h : FndM w B fb fv vs F) {j : Nat} (hj : j < F.length) : w.cell? (vat fv (j * 3)) = some (nthv vs j) := h.own.sl.2.2 _ _ (wcs_get vs F h.len j hj).1
theorem FndM.at1 (h : FndM w B fb fv vs F) {j : Nat} (hj : j < F.length) : w.cell? ⟨(vat fv (j * 3)).block, (vat fv (j * 3)).off + 1, none⟩ = some (.int .i64 (wayAt F j).fr) := h.own.sl.2.2 _ _ (wcs_get vs F h.len j hj).2.1
theorem FndM.at2 (h : FndM w B fb fv vs F) {j : Nat} (hj : j < F.length) : w.cell? ⟨(vat fv (j * 3)).block, (vat fv (j * 3)).off + 2, none⟩ = some (.int .i64 (wayAt F j).lt) := h.own.sl.2.2 _ _ (wcs_get vs F h.len j hj).2.2
end
/-- A slice of ints is appended to: the list of found elements stays. -/
theorem FndM.grown {w w' : World} {B fb B2 : Nat} {fv u : Value} {vs : List Value} {F : List Way} {X : List Int} (h : FndM w B fb fv vs F) (ho : OwnI w B2 u X) (hg : w.grownBy w' (Go.Sl.row u)) :
    w'.heap[fb]? = some (.cells #[fv] 139 (0, 0)) ∧ Go.Sl.Own w' B 138 3 fv (wcs vs F) := by
  have h1 : ∀ {b : Nat} {cur : Array Value} {e : TypeId}, e ≠ 3 → w.heap[b]? = some (.cells cur e (0, 0)) → Go.Sl.row u ≠ some b := fun {b cur e} hne hb hr => by
    obtain ⟨h0, rfl⟩ := row_eq hr
    obtain ⟨_, _, cur', hh, _⟩ := ho.2.2 h0
    rw [hh] at hb
    injection hb with hb
    injection hb with h1 h2
    exact hne h2.symm
  refine ⟨(hg.block _ h.lt (Ne.symm (h1 (by decide) h.box))).trans h.box, Go.Sl.Own.of_block h.own fun k hk => hg.block k (h.own.lt k hk).2 fun e => ?_⟩
  obtain ⟨h0, rfl⟩ := row_eq hk
  obtain ⟨_, _, cur', hh, _⟩ := h.own.2.2 h0
  exact h1 (by decide) hh e.symm
theorem wayL_lt {F : List Way} (hd : ∀ b, b < F.length → 0 < b → (wayAt F b).fr < b) : ∀ (f b : Nat), b < f → b < F.length → (wayL F f b).length ≤ b
  | 0, _, h, _ => absurd h (Nat.not_lt_zero _)
  | f + 1, b, h, hb => by
    rw [wayL]
    split
    · rename_i h0
      have h1 := hd b hb h0
      have := wayL_lt hd f (wayAt F b).fr (by omega) (by omega)
      rw [List.length_cons]; omega
    · exact Nat.zero_le _
theorem wayL_more {F : List Way} (hd : ∀ b, b < F.length → 0 < b → (wayAt F b).fr < b) : ∀ (f g b : Nat), b < f → b < g → b < F.length → wayL F f b = wayL F g b
  | 0, _, _, h, _, _ => absurd h (Nat.not_lt_zero _)
  | _, 0, _, _, h, _ => absurd h (Nat.not_lt_zero _)
  | f + 1, g + 1, b, h1, h2, hb => by
    rw [wayL, wayL]
    split
    · rename_i h0
      have h3 := hd b hb h0
      rw [wayL_more hd f g (wayAt F b).fr (by omega) (by omega) (by omega)]
    · rfl

set_option maxHeartbeats 4000000 in
set_option maxRecDepth 100000 in
theorem gword_calls (B fb : Nat) (fv : Value) (vs : List Value) (F : List Way) (i : Nat) (w : World) (h : FndM w B fb fv vs F) (hd : ∀ b, b < F.length → 0 < b → (wayAt F b).fr < b) (hi : i < F.length) (hl : F.length ≤ 100000) :
    Calls Try.prog 122 #[.int .i64 i, .pointer (some ⟨fb, 0, none⟩)] w fun e w' => ∃ u, e = .returned u ∧ OwnI w' w.heap.size u (wayL F F.length i).reverse ∧ Below w.heap.size w w' := by
  have sfv := h.own.1
  have lfv := h.vlen
  obtain ⟨N, hN⟩ : ∃ N, F.length = N := ⟨_, rfl⟩
  rw [hN] at lfv hi hl
  have HM := Lib.hid h; have HD := Lib.hid hd; have HN := Lib.hid hN
  clear h hd hN
  go_enter Try.func122, Try.ntmps122
  go_wp2_with fail
  go_loopw [0, 4] (fun s o wr => ∃ (b : Nat) (X : List Int), s = .int .i64 b ∧ b ≤ i ∧ OwnI wr w.heap.size o X ∧ X ++ wayL F N b = wayL F N i ∧ Below w.heap.size w wr) (fun s _ _ => (intOf s).toNat)
  case atStart => exact ⟨i, [], rfl, Nat.le_refl _, ownI_nil _ _, rfl, Below.refl _ _⟩
  case round =>
    obtain ⟨b, X, rfl, hb, ho, hX, hbr⟩ := hrel
    have hbs := hbr.size
    have so := ho.isSl
    have hXl : X.length ≤ 100000 := by
      have h1 := congrArg List.length hX
      rw [List.length_append] at h1
      have h2 := wayL_lt HD.out N i hi (by rw [HN.out]; exact hi)
      omega
    by_cases h0 : 0 < b
    · have hbN : b < F.length := by rw [HN.out]; omega
      have hM := HM.out.below hbr
      have c0 := hM.cell
      have c1 := hM.at1 hbN
      have c2 := hM.at2 hbN
      have hfr := HD.out b hbN h0
      obtain ⟨fr, hf⟩ : ∃ fr, (wayAt F b).fr = fr := ⟨_, rfl⟩
      obtain ⟨lt, hlt⟩ : ∃ lt, (wayAt F b).lt = lt := ⟨_, rfl⟩
      have hstep : wayL F N b = lt :: wayL F N fr := by
        obtain ⟨f, rfl⟩ : ∃ f, N = f + 1 := ⟨N - 1, by omega⟩
        rw [show wayL F (f + 1) b = if 0 < b then (wayAt F b).lt :: wayL F f (wayAt F b).fr else [] from rfl, if_pos h0, hf, hlt, wayL_more HD.out f (f + 1) fr (by omega) (by omega) (by omega)]
      rw [hf] at c1 hfr
      rw [hlt] at c2
      have hX2 : X ++ [lt] ++ wayL F N fr = wayL F N i := by rw [List.append_assoc, ← hX, hstep]; rfl
      have HFR := Lib.hid hf; have HX := Lib.hid hX2; have HO := Lib.hid ho; have HB := Lib.hid hbr
      have HM2 := Lib.hid hM
      clear hM hf hlt hstep hX hX2 ho hbr
      go_wp2_with (at_builtin; refine wpList_push (v := u4) rfl _ _ rfl rfl rfl HO.out hbs (by omega) ?_; intro v2 wx ho2 hg2 hr2; have kk := HM2.out.grown HO.out hg2; have k0 := cell_of_one kk.1; have k1 : wx.cell? ⟨(vat fv (b * 3)).block, (vat fv (b * 3)).off + 1, none⟩ = some (.int .i64 fr) := by have k2 := kk.2.sl.2.2 _ _ (wcs_get vs F HM2.out.len b hbN).2.1; rw [HFR.out] at k2; exact k2)
      have hb2 := Below_of_grown HB.out hg2 hbs (fun b hb => (HO.out.lt b hb).1)
      go_roundw
      case rel => exact ⟨fr, X ++ [lt], rfl, by omega, ho2, HX.out, hb2⟩
      case measure => (simp [intOf]; try omega)
    · obtain rfl : b = 0 := by omega
      have hw0 : wayL F N 0 = [] := by cases N <;> simp [wayL]
      rw [hw0, List.append_nil] at hX
      rw [hX] at ho hXl
      have HO := Lib.hid ho; have HB := Lib.hid hbr
      clear ho hbr hX hw0
      go_wp2_with fail
      refine (reverse_calls u4 _ w.heap.size _ HO.out (by omega)).mono ?_
      rintro e w2 ⟨⟨uu, rfl⟩, ho2, hb2⟩
      have HO2 := Lib.hid ho2
      replace HB := Lib.hid (HB.out.trans hb2)
      clear ho2 hb2
      go_wp2_with fail
      refine (clip_calls u4 _ w.heap.size _ HO2.out).mono ?_
      rintro e w3 ⟨rfl, v3, rfl, ho3⟩
      have s3 := ho3.isSl
      have HO3 := Lib.hid ho3
      clear ho3
      go_wp2_with fail
      go_ret
      exact ⟨_, rfl, by rw [HN.out]; exact HO3.out, HB.out⟩
end Go.Proofs.Ytplekfgadbjgdaa


/- The chain of a group in memory: each level's box, generators, map and order lie in blocks of its own; rows are never written. -/
import Derived.Test.YtplekfgadbjgdaaQGroupOrbitStabilizer0
import Derived.Test.YtplekfgadbjgdaaQGroupOrbitStabilizer1
import Derived.Test.YtplekfgadbjgdaaQGroupOrbitStabilizer2
import Derived.Test.YtplekfgadbjgdaaQGroupOrbitStabilizer5
import Derived.Test.YtplekfgadbjgdaaQGroupOrbitStabilizer8
import Derived.Test.YtplekfgadbjgdaaQGroupOrbitStabilizer11

namespace Go.Proofs.Ytplekfgadbjgdaa
open Go.RowKit Go.Sl Go.Mp Go.Maps

theorem gkey : Keyed Try.prog 3 := int_keyed Try.underlying3
theorem isK_int {x : Nat} (h : x ≤ 1000) : IsK Try.prog 3 (.int .i64 (x : Int)) := by
  refine ⟨.int .i64 (x : Int), ?_⟩
  have hw : (Lit.int .i64 (x : Int)).wf = true := by
    simp only [Lit.wf, IntKind.min, IntKind.max, IntKind.signed, IntKind.bits, Bool.and_eq_true, decide_eq_true_eq, if_true]
    omega
  simp [keyOf, Try.underlying3, mapKey, hw]
theorem zero_ints (w : World) : (zeroValue 22).run Try.prog w = .ok (.slice none 0 0) w := by kernel_rfl
/-- A permutation that is never written: the labels tell the blocks that may be. -/
def RowL (lab : Nat → Nat) (w : World) (v : Value) (xs : List Int) : Prop := Ints w v xs ∧ (0 < xs.length → lab (vblk v) = 0)
/-- A level's box. -/
def Tri (w : World) (b : Nat) (x y z : Value) : Prop := w.heap[b]? = some (.cells #[x, y, z] 135 (0, 0))
section
variable {w w' : World} {b : Nat} {x y z : Value}
theorem Tri.lt (h : Tri w b x y z) : b < w.heap.size := (Array.getElem?_eq_some_iff.1 h).1
theorem Tri.cell0 (h : Tri w b x y z) : w.cell? ⟨b, 0, none⟩ = some x := by simp [World.cell?, show w.heap[b]? = _ from h]
theorem Tri.cell1 (h : Tri w b x y z) : w.cell? ⟨b, 1, none⟩ = some y := by simp [World.cell?, show w.heap[b]? = _ from h]
theorem Tri.cell2 (h : Tri w b x y z) : w.cell? ⟨b, 2, none⟩ = some z := by simp [World.cell?, show w.heap[b]? = _ from h]
theorem Tri.free (h : Tri w b x y z) (o : Nat) : w.frozen? ⟨b, o, none⟩ = false := by simp [World.frozen?, show w.heap[b]? = _ from h]
theorem Tri.set0 (h : Tri w b x y z) (u : Value) : Tri (w.setCell ⟨b, 0, none⟩ u) b u y z := by unfold Tri at *; simp [World.setCell, Array.getElem?_modify, h]
theorem Tri.set2 (h : Tri w b x y z) (u : Value) : Tri (w.setCell ⟨b, 2, none⟩ u) b x y u := by unfold Tri at *; simp [World.setCell, Array.getElem?_modify, h]
end
/-- What level j is in memory. -/
structure LvM (lab : Nat → Nat) (w : World) (B j : Nat) (L : Lv) (b mb : Nat) (gv ov : Value) (gvs : List Value) (m : Value → Option Value) : Prop where
  box : Tri w b gv (.map (some mb)) ov
  lb : lab b = 4 * j + 1
  lg : ∀ k, row gv = some k → lab k = 4 * j + 2
  lm : lab mb = 4 * j + 3
  lo : ∀ k, row ov = some k → lab k = 4 * j + 4
  go : Go.Sl.Own w B 22 1 gv gvs
  gl : gvs.length = L.gs.length
  gr : ∀ i, i < L.gs.length → RowL lab w (nthv gvs i) (nthr L.gs i)
  mv : ∃ nn, MapV Try.prog 3 w mb nn m
  ms : ∀ (x : Nat) u, L.rc x = some u → ∃ v, m (.int .i64 (x : Int)) = some v ∧ RowL lab w v u
  mn : ∀ x : Nat, L.rc x = none → m (.int .i64 (x : Int)) = none
  oo : OwnI w B ov (L.od.map fun x : Nat => (x : Int))
/-- The chain. cv: the slice of the boxes. -/
structure ChM (lab : Nat → Nat) (w : World) (B n : Nat) (cv : Value) (bx : Nat → Nat) (C : Nat → Lv) : Prop where
  cs : Go.Sl.Sl w cv 1 ((List.range n).map fun j => .pointer (some ⟨bx j, 0, none⟩))
  cl : 0 < n → lab (vblk cv) = 0
  lv : ∀ j, j < n → ∃ mb gv ov gvs m, LvM lab w B j (C j) (bx j) mb gv ov gvs m
  lt : ∀ b, lab b ≠ 0 → B ≤ b ∧ b < w.heap.size
/-- What does not belong to the levels from i on is as it was. -/
structure KeepL (i : Nat) (lab lab' : Nat → Nat) (w w' : World) : Prop where
  bel : Below 0 w w'
  block : ∀ b, b < w.heap.size → lab b ≤ 4 * i → w'.heap[b]? = w.heap[b]?
  ext : ∀ b, b < w.heap.size → lab' b = lab b
section
variable {lab lab' lab2 : Nat → Nat} {w w' w2 : World} {B n i j b mb : Nat} {L : Lv} {gv ov cv : Value} {gvs : List Value} {m : Value → Option Value} {bx : Nat → Nat} {C : Nat → Lv} {v : Value} {xs : List Int}
theorem KeepL.refl (i : Nat) (lab : Nat → Nat) (w : World) : KeepL i lab lab w w := ⟨Below.refl _ _, fun _ _ _ => rfl, fun _ _ => rfl⟩
theorem KeepL.trans (h : KeepL i lab lab' w w') (k : KeepL i lab' lab2 w' w2) : KeepL i lab lab2 w w2 :=
  ⟨h.bel.trans k.bel, fun b hb hl => (k.block b (Nat.lt_of_lt_of_le hb h.bel.size) (by rw [h.ext b hb]; exact hl)).trans (h.block b hb hl), fun b hb => (k.ext b (Nat.lt_of_lt_of_le hb h.bel.size)).trans (h.ext b hb)⟩
theorem KeepL.low (h : KeepL i lab lab' w w') {i' : Nat} (hi : i' ≤ i) : KeepL i' lab lab' w w' := ⟨h.bel, fun b hb hl => h.block b hb (by omega), h.ext⟩
theorem KeepL.of_below (i : Nat) (lab : Nat → Nat) (hb : Below w.heap.size w w') : KeepL i lab lab w w' := ⟨hb.mono (Nat.zero_le _), fun b h _ => hb.block b h, fun _ _ => rfl⟩
theorem KeepL.below (h : KeepL i lab lab' w w') (hl : ∀ b, lab b ≠ 0 → B ≤ b) (hB : B ≤ w.heap.size) : Below B w w' :=
  ⟨h.bel.os, h.bel.tape, h.bel.output, h.bel.size, fun b hb => h.block b (by omega) (by
    by_cases e : lab b = 0
    · omega
    · have := hl b e; omega)⟩
theorem Ints.keepL (h : Ints w v xs) (hl : lab (vblk v) = 0) (hk : KeepL i lab lab' w w') : Ints w' v xs := Go.Sl.Sl.of_block h fun hb => hk.block _ hb (by omega)
theorem RowL.keep (h : RowL lab w v xs) (h0 : 0 < xs.length) (hk : KeepL i lab lab' w w') : RowL lab' w' v xs := by
  refine ⟨h.1.keepL (h.2 h0) hk, fun _ => ?_⟩
  have hlt : vblk v < w.heap.size := h.1.blk_lt h0
  rw [hk.ext _ hlt]; exact h.2 h0
/-- A level of which no block has changed. -/
theorem LvM.same2 (h : LvM lab w B j L b mb gv ov gvs m) (hb : ∀ k, k < w.heap.size → (lab k = 0 ∨ (4 * j < lab k ∧ lab k ≤ 4 * j + 4)) → w'.heap[k]? = w.heap[k]?) (hx : ∀ k, k < w.heap.size → (lab k = 0 ∨ (4 * j < lab k ∧ lab k ≤ 4 * j + 4)) → lab' k = lab k)
    (hne : ∀ g ∈ L.gs, 0 < g.length) (hnr : ∀ x u, L.rc x = some u → 0 < u.length) : LvM lab' w' B j L b mb gv ov gvs m := by
  have hrow : ∀ {v xs}, 0 < xs.length → RowL lab w v xs → RowL lab' w' v xs := fun {v xs} h0 hr => by
    have hlt : vblk v < w.heap.size := hr.1.blk_lt h0
    exact ⟨Go.Sl.Sl.of_block hr.1 fun hl => hb _ hl (.inl (hr.2 h0)), fun _ => by rw [hx _ hlt (.inl (hr.2 h0))]; exact hr.2 h0⟩
  have hg := h.go.lt
  have ho := h.oo.lt
  obtain ⟨nn, hm⟩ := h.mv
  have hml := hm.lt
  refine ⟨(hb b h.box.lt (.inr (by rw [h.lb]; omega))).trans h.box, by rw [hx b h.box.lt (.inr (by rw [h.lb]; omega))]; exact h.lb, fun k hk => by rw [hx k (hg k hk).2 (.inr (by rw [h.lg k hk]; omega))]; exact h.lg k hk, by rw [hx mb hml (.inr (by rw [h.lm]; omega))]; exact h.lm, fun k hk => by rw [hx k (ho k hk).2 (.inr (by rw [h.lo k hk]; omega))]; exact h.lo k hk,
    Go.Sl.Own.of_block h.go fun k hk => hb k (hg k hk).2 (.inr (by rw [h.lg k hk]; omega)), h.gl, fun i hi => hrow (hne _ (by rw [nthr_lt hi]; exact List.getElem_mem hi)) (h.gr i hi), ⟨nn, ?_⟩, fun x u hu => ?_, h.mn, Go.Sl.Own.of_block h.oo fun k hk => hb k (ho k hk).2 (.inr (by rw [h.lo k hk]; omega))⟩
  · obtain ⟨es, c, h1, r⟩ := hm
    exact ⟨es, c, (hb mb hml (.inr (by rw [h.lm]; omega))).trans h1, r⟩
  · obtain ⟨v, h1, h2⟩ := h.ms x u hu
    exact ⟨v, h1, hrow (hnr x u hu) h2⟩
theorem LvM.same (h : LvM lab w B j L b mb gv ov gvs m) (_hs : w.heap.size ≤ w'.heap.size) (hb : ∀ k, k < w.heap.size → (lab k = 0 ∨ (4 * j < lab k ∧ lab k ≤ 4 * j + 4)) → w'.heap[k]? = w.heap[k]?) (hx : ∀ k, k < w.heap.size → lab' k = lab k)
    (hne : ∀ g ∈ L.gs, 0 < g.length) (hnr : ∀ x u, L.rc x = some u → 0 < u.length) : LvM lab' w' B j L b mb gv ov gvs m := h.same2 hb (fun k h1 _ => hx k h1) hne hnr
theorem LvM.low (h : LvM lab w B j L b mb gv ov gvs m) (hk : KeepL i lab lab' w w') (hj : j < i) (hne : ∀ g ∈ L.gs, 0 < g.length) (hnr : ∀ x u, L.rc x = some u → 0 < u.length) : LvM lab' w' B j L b mb gv ov gvs m :=
  h.same hk.bel.size (fun k h1 h2 => hk.block k h1 (by rcases h2 with h2 | h2 <;> omega)) hk.ext hne hnr
theorem LvG.gpos {n j : Nat} {L : Lv} (h : LvG n j L) (hn : 0 < n) : ∀ g ∈ L.gs, 0 < g.length := fun g hg => by rw [(h.gpm g hg).2]; exact hn
theorem LvG.rpos {n j : Nat} {L : Lv} (h : LvG n j L) (hn : 0 < n) (hn2 : n ≤ 1000) : ∀ x u, L.rc x = some u → 0 < u.length := fun x u hu => by rw [(h.pm hn2 hu).2]; exact hn
/-- New blocks, and nothing else. -/
theorem ChM.grown (h : ChM lab w B n cv bx C) (hb : Below w.heap.size w w') (hg : ∀ j, j < n → (∀ g ∈ (C j).gs, 0 < g.length) ∧ ∀ x u, (C j).rc x = some u → 0 < u.length) : ChM lab w' B n cv bx C := by
  refine ⟨h.cs.below hb, h.cl, fun j hj => ?_, fun b hl => ?_⟩
  · obtain ⟨mb, gv, ov, gvs, m, hL⟩ := h.lv j hj
    exact ⟨mb, gv, ov, gvs, m, hL.same hb.size (fun k h1 _ => hb.block k h1) (fun _ _ => rfl) (hg j hj).1 (hg j hj).2⟩
  · have := h.lt b hl; have := hb.size; omega
theorem RowL.grown (h : RowL lab w v xs) (hb : Below w.heap.size w w') : RowL lab w' v xs := ⟨h.1.below hb, h.2⟩
/-- A row that has just been made. -/
theorem RowL.made (h : OwnI w' B v xs) (h0 : 0 < xs.length) (hB : w.heap.size ≤ B) (hl : ∀ b, lab b ≠ 0 → b < w.heap.size) : RowL lab w' v xs := by
  refine ⟨h.ints, fun _ => ?_⟩
  have hr : row v = some (vblk v) := row_some (by have := h.ints.cap; omega)
  have := (h.lt _ hr).1
  by_cases e : lab (vblk v) = 0
  · exact e
  · have := hl _ e; omega
end
end Go.Proofs.Ytplekfgadbjgdaa


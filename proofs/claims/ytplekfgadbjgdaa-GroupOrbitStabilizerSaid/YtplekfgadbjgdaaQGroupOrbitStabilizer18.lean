/- permgroup.newChain walked: the chain of a group. -/
import Derived.Test.YtplekfgadbjgdaaQGroupOrbitStabilizer0
import Derived.Test.YtplekfgadbjgdaaQGroupOrbitStabilizer1
import Derived.Test.YtplekfgadbjgdaaQGroupOrbitStabilizer2
import Derived.Test.YtplekfgadbjgdaaQGroupOrbitStabilizer3
import Derived.Test.YtplekfgadbjgdaaQGroupOrbitStabilizer4
import Derived.Test.YtplekfgadbjgdaaQGroupOrbitStabilizer5
import Derived.Test.YtplekfgadbjgdaaQGroupOrbitStabilizer8
import Derived.Test.YtplekfgadbjgdaaQGroupOrbitStabilizer11
import Derived.Test.YtplekfgadbjgdaaQGroupOrbitStabilizer12
import Derived.Test.YtplekfgadbjgdaaQGroupOrbitStabilizer13
import Derived.Test.YtplekfgadbjgdaaQGroupOrbitStabilizer14
import Derived.Test.YtplekfgadbjgdaaQGroupOrbitStabilizer15
import Derived.Test.YtplekfgadbjgdaaQGroupOrbitStabilizer16
import Derived.Test.YtplekfgadbjgdaaQGroupOrbitStabilizer17

namespace Go.Proofs.Ytplekfgadbjgdaa
open Go.RowKit Go.Sl Go.Mp Go.Maps

theorem addC_all (n B : Nat) (hn : n ≤ 9) : ∀ f i, n - i ≤ f → i ≤ n → AddC n B i
  | 0, i, h, hi => add_of n B i hn hi fun j h1 h2 => by omega
  | f + 1, i, h, hi => add_of n B i hn hi fun j h1 h2 => complete_of n B j hn h2 (addC_all n B hn f (j + 1) (by omega) h2)

/-! ### The chain at the start, and the generators one after the other -/
def lv0 (n j : Nat) : Lv := ⟨[], fun x => if x = j then some (iota n) else none, [j]⟩
theorem lv0_ok {n j : Nat} (hj : j < n) : LvG n j (lv0 n j) := by
  refine ⟨fun g hg => (by cases hg), fun g hg => (by cases hg), ?_, fun x u hu => ?_, fun x => ?_, by simp [lv0]⟩
  · show (if j = j then some (iota n) else none) = _; rw [if_pos rfl]
  · have hu : (if x = j then some (iota n) else none) = some u := hu
    by_cases e : x = j
    · rw [if_pos e] at hu
      obtain rfl := Option.some.inj hu
      exact ⟨by omega, by rw [nth_iota n j hj, e], .one⟩
    · rw [if_neg e] at hu; cases hu
  · show x ∈ [j] ↔ (if x = j then some (iota n) else none) ≠ none
    by_cases e : x = j <;> simp [e]
theorem half0 (n : Nat) : Half n 0 0 (lv0 n) := ⟨fun j _ h => lv0_ok h, fun j _ h g hg => (by cases hg), fun j _ h x u g _ hg => (by cases hg)⟩
theorem pos0 {n : Nat} : PosC n (lv0 n) := fun j hj => ⟨(lv0_ok hj).gpos (by omega), fun x u hu => by
  have hu : (if x = j then some (iota n) else none) = some u := hu
  by_cases e : x = j
  · rw [if_pos e] at hu
    obtain rfl := Option.some.inj hu
    rw [iota_length]; omega
  · rw [if_neg e] at hu; cases hu⟩
theorem potT_le (n : Nat) (C : Nat → Lv) : ∀ f j, potT n C f j ≤ f * n
  | 0, _ => by rw [potT]; omega
  | f + 1, j => by
    rw [potT, Nat.succ_mul]
    have := potT_le n C f (j + 1)
    omega
theorem pot_le (n : Nat) (C : Nat → Lv) (j : Nat) (hn : n ≤ 9) : potC n C j ≤ 81 := by
  unfold potC
  refine Nat.le_trans (potT_le n C _ _) ?_
  calc (n - j) * n ≤ 9 * 9 := Nat.mul_le_mul (by omega) hn
    _ = 81 := rfl
def topGs (n : Nat) (C : Nat → Lv) : List (List Int) := if 0 < n then (C 0).gs else []
/-- The generators up to the q-th are in. -/
structure InsG (n q : Nat) (S : List (List Int)) (C : Nat → Lv) : Prop where
  half : Half n 0 0 C
  has : ∀ g ∈ S.take q, Gen n (topGs n C) g
  upper : ∀ j, j < n → ∀ g ∈ (C j).gs, Gen n S g
  sum : ∀ j, (C j).gs.length + potC n C j ≤ 1000
theorem insG_start (n : Nat) (hn : n ≤ 9) (S : List (List Int)) : InsG n 0 S (lv0 n) := ⟨half0 n, fun g hg => by simp at hg, fun j _ g hg => (by cases hg), fun j => by have := pot_le n (lv0 n) j hn; show ([] : List (List Int)).length + _ ≤ _; simp only [List.length_nil]; omega⟩
theorem topPm {n : Nat} {C : Nat → Lv} (h : Half n 0 0 C) : ∀ g ∈ topGs n C, Pm n g := by
  unfold topGs
  split
  · rename_i h0; exact h.gpm (Nat.le_refl _) h0
  · intro g hg; cases hg
theorem InsG.step {n q : Nat} {S : List (List Int)} {C D : Nat → Lv} (h : InsG n q S C) (hn : n ≤ 9) (hS : ∀ g ∈ S, Pm n g) (hq : q < S.length) (hD : AddRes n 0 S[q] C D) : InsG n (q + 1) S D := by
  have htm : ∀ g ∈ topGs n C, g ∈ topGs n D := fun g hg => by
    unfold topGs at hg ⊢
    split at hg
    · rename_i h0; rw [if_pos h0]; exact hD.went.mono 0 g hg
    · cases hg
  have hD2 := topPm hD.good
  refine ⟨hD.good, fun g hg => ?_, fun j hj g hg => ?_, fun j => Nat.le_trans (hD.went.sum j (Nat.zero_le _)) (h.sum j)⟩
  · rw [List.take_succ_eq_append_getElem hq] at hg
    rcases List.mem_append.1 hg with h1 | h1
    · exact (h.has g h1).sub (by omega) hD2 fun x hx => Gen.of hD2 (htm x hx)
    · rw [List.mem_singleton.1 h1]; exact hD.has
  · exact hD.upper S hS (fun j _ hj g hg => h.upper j hj g hg) (Gen.of hS (List.getElem_mem hq)) j (Nat.zero_le _) hj g hg
/-- The chain of a group. -/
structure ChainOf (n : Nat) (S : List (List Int)) (C : Nat → Lv) : Prop where
  half : Half n 0 0 C
  same : ∀ p, Gen n (topGs n C) p ↔ Gen n S p
theorem InsG.chain {n : Nat} {S : List (List Int)} {C : Nat → Lv} (h : InsG n S.length S C) (hn : n ≤ 9) (hS : ∀ g ∈ S, Pm n g) : ChainOf n S C := by
  refine ⟨h.half, fun p => ⟨fun hp => hp.sub (by omega) hS fun g hg => ?_, fun hp => hp.sub (by omega) (topPm h.half) fun g hg => h.has g (by rw [List.take_length]; exact hg)⟩⟩
  unfold topGs at hg
  split at hg
  · rename_i h0; exact h.upper 0 h0 g hg
  · cases hg
theorem ChainOf.card {n : Nat} {S : List (List Int)} {C : Nat → Lv} (h : ChainOf n S C) (hn : n ≤ 9) : HasCard (Gen n S) (sizeT C n 0) :=
  (card_from h.half (by omega) n 0 (Nat.zero_add n)).congr h.same

/-! ### The chain while it is built -/
structure BldM (lab : Nat → Nat) (w : World) (B n k : Nat) (cv : Value) (bx : Nat → Nat) : Prop where
  own : Go.Sl.Own w B 132 1 cv ((List.range k).map fun j => .pointer (some ⟨bx j, 0, none⟩))
  lc : ∀ b, row cv = some b → lab b = 4 * n + 5
  lv : ∀ j, j < k → ∃ mb gv ov gvs m, LvM lab w B j (lv0 n j) (bx j) mb gv ov gvs m
  lt : ∀ b, lab b ≠ 0 → B ≤ b ∧ b < w.heap.size
theorem bld_start (w : World) (n : Nat) : BldM (fun _ => 0) w w.heap.size n 0 (.slice none 0 0) (fun _ => 0) := ⟨own_nil _ _ _ _, fun b hb => by simp at hb, fun j hj => absurd hj (Nat.not_lt_zero _), fun b hb => absurd rfl hb⟩
theorem BldM.step {lab : Nat → Nat} {w w' : World} {B n k mb ob bb nn : Nat} {cv cv' iv ov : Value} {bx : Nat → Nat} {m : Value → Option Value} (h : BldM lab w B n k cv bx) (hk : k < n) (hB : B ≤ w.heap.size)
    (o1 : w.heap.size ≤ mb) (o2 : mb < vblk iv) (o3 : vblk iv < ob) (o4 : ob < bb) (o5 : bb < w'.heap.size)
    (hold : ∀ b, b < w.heap.size → row cv ≠ some b → w'.heap[b]? = w.heap[b]?) (hbox : Tri w' bb (.slice none 0 0) (.map (some mb)) ov) (hov : OwnI w' B ov [(k : Int)]) (hro : ∀ q, row ov = some q → q = ob)
    (hm : MapV Try.prog 3 w' mb nn m) (h1 : m (.int .i64 (k : Int)) = some iv) (h2 : ∀ key, key ≠ .int .i64 (k : Int) → m key = none) (hiv : Ints w' iv (iota n))
    (hcv : Go.Sl.Own w' B 132 1 cv' ((List.range k).map (fun j => .pointer (some ⟨bx j, 0, none⟩)) ++ [.pointer (some ⟨bb, 0, none⟩)])) (hr : ∀ q, row cv' = some q → row cv = some q ∨ bb < q) :
    ∃ lab', BldM lab' w' B n (k + 1) cv' (fun j => if j = k then bb else bx j) := by
  obtain ⟨lab', hlab⟩ : ∃ lab' : Nat → Nat, lab' = fun b => if row cv' = some b then 4 * n + 5 else if b = mb then 4 * k + 3 else if b = ob then 4 * k + 4 else if b = bb then 4 * k + 1 else lab b := ⟨_, rfl⟩
  have hcl : ∀ q, row cv = some q → q < w.heap.size := fun q hq => (h.own.lt q hq).2
  have hnew : ∀ b, w.heap.size ≤ b → lab b = 0 := fun b hb => by
    by_cases e : lab b = 0
    · exact e
    · have := h.lt b e; omega
  have lo : ∀ b, b < w.heap.size → lab' b = lab b := fun b hb => by
    rw [hlab]
    show (if row cv' = some b then _ else _) = _
    split
    · rename_i e
      rcases hr b e with e1 | e1
      · exact (h.lc b e1).symm
      · omega
    · rw [if_neg (by omega), if_neg (by omega), if_neg (by omega)]
  have nrow : ∀ b, w.heap.size ≤ b → b ≤ bb → row cv' ≠ some b := fun b h3 h4 e => by
    rcases hr b e with e1 | e1
    · have := hcl b e1; omega
    · omega
  have lmb : lab' mb = 4 * k + 3 := by rw [hlab]; show (if row cv' = some mb then _ else _) = _; rw [if_neg (nrow mb o1 (by omega)), if_pos rfl]
  have lob : lab' ob = 4 * k + 4 := by rw [hlab]; show (if row cv' = some ob then _ else _) = _; rw [if_neg (nrow ob (by omega) (by omega)), if_neg (by omega), if_pos rfl]
  have lbb : lab' bb = 4 * k + 1 := by rw [hlab]; show (if row cv' = some bb then _ else _) = _; rw [if_neg (nrow bb (by omega) (by omega)), if_neg (by omega), if_neg (by omega), if_pos rfl]
  have liv : lab' (vblk iv) = 0 := by rw [hlab]; show (if row cv' = some (vblk iv) then _ else _) = _; rw [if_neg (nrow _ (by omega) (by omega)), if_neg (by omega), if_neg (by omega), if_neg (by omega)]; exact hnew _ (by omega)
  have hbx : ((List.range (k + 1)).map fun j => (.pointer (some ⟨if j = k then bb else bx j, 0, none⟩) : Value)) = (List.range k).map (fun j => .pointer (some ⟨bx j, 0, none⟩)) ++ [.pointer (some ⟨bb, 0, none⟩)] := by
    rw [List.range_succ, List.map_append]
    congr 1
    · exact List.map_congr_left fun j hj => by have := List.mem_range.1 hj; rw [if_neg (by omega)]
    · simp
  have hn0 : 0 < (iota n).length := by rw [iota_length]; omega
  refine ⟨lab', by rw [hbx]; exact hcv, fun b hb => by rw [hlab]; show (if row cv' = some b then _ else _) = _; rw [if_pos hb], fun j hj => ?_, fun b hb => ?_⟩
  · by_cases e : j = k
    · subst e
      rw [if_pos rfl]
      refine ⟨mb, .slice none 0 0, ov, [], m, hbox, lbb, fun q hq => by simp at hq, lmb, fun q hq => by rw [hro q hq]; exact lob, own_nil _ _ _ _, rfl, fun i hi => absurd hi (Nat.not_lt_zero _), ⟨nn, hm⟩, fun x u hu => ?_, fun x hx => ?_, hov⟩
      · have hu : (if x = j then some (iota n) else none) = some u := hu
        by_cases e : x = j
        · rw [if_pos e] at hu
          obtain rfl := Option.some.inj hu
          rw [e]; exact ⟨iv, h1, hiv, fun _ => liv⟩
        · rw [if_neg e] at hu; cases hu
      · have hx : (if x = j then some (iota n) else none) = none := hx
        by_cases e : x = j
        · rw [if_pos e] at hx; cases hx
        · exact h2 _ fun e2 => e (by injection e2 with _ e3; omega)
    · rw [if_neg e]
      obtain ⟨mb2, gv2, ov2, gvs2, m2, hL⟩ := h.lv j (by omega)
      refine ⟨mb2, gv2, ov2, gvs2, m2, hL.same2 (fun b hb hl => hold b hb fun e => ?_) (fun b hb _ => lo b hb) (pos0 j (by omega)).1 (pos0 j (by omega)).2⟩
      have := h.lc b e; omega
  · rw [hlab] at hb
    have hb : (if row cv' = some b then 4 * n + 5 else if b = mb then 4 * k + 3 else if b = ob then 4 * k + 4 else if b = bb then 4 * k + 1 else lab b) ≠ 0 := hb
    split at hb
    · rename_i e; exact hcv.lt b e
    · split at hb
      · omega
      · split at hb
        · omega
        · split at hb
          · omega
          · have := h.lt b hb; omega
/-- The chain is built. -/
theorem BldM.done {lab : Nat → Nat} {w : World} {B n : Nat} {cv : Value} {bx : Nat → Nat} (h : BldM lab w B n n cv bx) : ∃ lab', ChM lab' w B n cv bx (lv0 n) := by
  refine ⟨fun b => if lab b = 4 * n + 5 then 0 else lab b, h.own.sl, ?_, fun j hj => ?_, fun b hb => ?_⟩
  · intro hn0
    show (if lab (vblk cv) = 4 * n + 5 then 0 else lab (vblk cv)) = 0
    split
    · rfl
    · rename_i e
      by_cases h0 : 0 < vcap cv
      · exact absurd (h.lc _ (row_some h0)) e
      · have h1 := h.own.2.1
        have h2 := h.own.1.le
        simp at h1
        omega
  · obtain ⟨mb2, gv2, ov2, gvs2, m2, hL⟩ := h.lv j hj
    refine ⟨mb2, gv2, ov2, gvs2, m2, hL.same2 (fun _ _ _ => rfl) (fun b hb hl => ?_) (pos0 j hj).1 (pos0 j hj).2⟩
    show (if lab b = 4 * n + 5 then 0 else lab b) = lab b
    rw [if_neg (by omega)]
  · have hb : (if lab b = 4 * n + 5 then 0 else lab b) ≠ 0 := hb
    split at hb
    · exact absurd rfl hb
    · exact h.lt b hb
end Go.Proofs.Ytplekfgadbjgdaa


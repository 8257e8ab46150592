/- The chain of a group in memory: a generator more, a point more. -/
import Derived.Test.YtplekfgadbjgdaaQGroupOrbitStabilizer0
import Derived.Test.YtplekfgadbjgdaaQGroupOrbitStabilizer1
import Derived.Test.YtplekfgadbjgdaaQGroupOrbitStabilizer2
import Derived.Test.YtplekfgadbjgdaaQGroupOrbitStabilizer5
import Derived.Test.YtplekfgadbjgdaaQGroupOrbitStabilizer8
import Derived.Test.YtplekfgadbjgdaaQGroupOrbitStabilizer11
import Derived.Test.YtplekfgadbjgdaaQGroupOrbitStabilizer13
import Derived.Test.YtplekfgadbjgdaaQGroupOrbitStabilizer14

namespace Go.Proofs.Ytplekfgadbjgdaa
open Go.RowKit Go.Sl Go.Mp Go.Maps

theorem PosC.after {n i : Nat} {C D : Nat → Lv} (h : PosC n C) (hn : n ≤ 1000) (h0 : 0 < n) (hl : ∀ j, j < i → D j = C j) (hg : ∀ j, i ≤ j → j < n → LvG n j (D j)) : PosC n D := fun j hj => by
  rcases Nat.lt_or_ge j i with h1 | h1
  · rw [hl j h1]; exact h j hj
  · exact ⟨(hg j h1 hj).gpos h0, (hg j h1 hj).rpos h0 hn⟩
theorem PosC.upd {n i : Nat} {C : Nat → Lv} {L : Lv} (h : PosC n C) (hL : (∀ g ∈ L.gs, 0 < g.length) ∧ ∀ x u, L.rc x = some u → 0 < u.length) : PosC n (updC C i L) := fun j hj => by
  by_cases e : j = i
  · rw [e, updC_same]; exact hL
  · rw [updC_other _ _ e]; exact h j hj
set_option maxRecDepth 100000 in
/-- append of a row to a slice of rows, in a region that draws: what is owned. -/
theorem step_pushS {w W : World} {r : Value} {o : Oper} {a : Act} {K : Act → World → Prop} {Q : Exit → Act → World → Prop} (s x : Operand) (hW : W = w.alloc (.cells #[r] 22))
    (ho : o.op = .call { callee := .builtin .append, args := #[s, x], argTypes := #[24, 24] })
    {B : Nat} {v : Value} {vs : List Value} (hs : a.eval s = v) (hx : a.eval x = .slice (some ⟨w.heap.size, 0, none⟩) 1 1) (hown : Go.Sl.Own w B 22 1 v vs) (hr : IsSl r) (hB : B ≤ w.heap.size) (hlen : vs.length ≤ 1000000000000)
    (h : ∀ v' w', Go.Sl.Own w' B 22 1 v' (vs ++ [r]) → w.grownBy w' (Go.Sl.row v) → (∀ k, Go.Sl.row v' = some k → Go.Sl.row v = some k ∨ w.heap.size ≤ k) → K (a.put o.dst v') w') :
    Oper.wp Try.prog o a W K Q := by
  subst hW
  obtain ⟨i, hi, hz0, hz1, hz2⟩ := info_parts info_slice
  have hl : vlen v = vs.length := by have := hown.2.1; omega
  obtain ⟨v', w', hrn, h1, h2, h3⟩ := run_append_sl (P := Try.prog) (w.alloc (.cells #[r] 22)) B 24 o.type 22 i _ 1 24 Try.underlying24 hi hz0 hz1 hz2 rfl (by decide) (Go.Sl.Own.alloc hown _) (sl_one w r 22)
    (by intro u hu; simp at hu; subst hu; exact oneCell'_sl hr) (by simp only [vlen_mk, hl, maxLen]; omega) (by simp only [vlen_mk, hl]; omega) (by simp; omega)
  have hg : w.grownBy w' (Go.Sl.row v) := ⟨h2.os, h2.tape, h2.output, by have := h2.size; simp at this; omega, fun k hk hr => (h2.block k (by simp; omega) hr).trans (Below.heap_alloc w _ k hk)⟩
  unfold Oper.wp execOp
  simp only [ho, resolve, invoke, builtin, Sem.run_bind, Sem.run_pure, Result.andThen_ok, List.map_toArray, List.map_cons, List.map_nil, hs, hx, hrn]
  exact h v' w' h1 hg fun k hk => by
    rcases h3 k hk with h | h
    · exact .inl h
    · exact .inr (by simp at h; omega)
set_option maxRecDepth 100000 in
/-- append of a number, in a region that draws. -/
theorem step_pushI {w W : World} {z : Int} {o : Oper} {a : Act} {K : Act → World → Prop} {Q : Exit → Act → World → Prop} (s x : Operand) (hW : W = w.alloc (.cells #[.int .i64 z] 3))
    (ho : o.op = .call { callee := .builtin .append, args := #[s, x], argTypes := #[22, 22] })
    {B : Nat} {v : Value} {xs : List Int} (hs : a.eval s = v) (hx : a.eval x = .slice (some ⟨w.heap.size, 0, none⟩) 1 1) (hown : OwnI w B v xs) (hB : B ≤ w.heap.size) (hlen : xs.length ≤ 1000000000)
    (h : ∀ v' w', OwnI w' B v' (xs ++ [z]) → w.grownBy w' (Go.Sl.row v) → (∀ k, Go.Sl.row v' = some k → Go.Sl.row v = some k ∨ w.heap.size ≤ k) → K (a.put o.dst v') w') :
    Oper.wp Try.prog o a W K Q := by
  subst hW
  obtain ⟨i, hi, hz0, hz1, hz2⟩ := info_parts info_int
  have hl := hown.len
  obtain ⟨v', w', hrn, h1, h2, h3⟩ := run_append_sl (P := Try.prog) (w.alloc (.cells #[.int .i64 z] 3)) B 22 o.type 3 i (.int .i64 0) 1 8 Try.underlying22 hi hz0 hz1 hz2 rfl (by decide) (Go.Sl.Own.alloc hown _) (sl_one w (.int .i64 z) 3)
    (by intro u hu; simp at hu; subst hu; rfl) (by simp only [vlen_mk, hl, maxLen]; omega) (by simp only [vlen_mk, hl]; omega) (by simp; omega)
  have hg : w.grownBy w' (Go.Sl.row v) := ⟨h2.os, h2.tape, h2.output, by have := h2.size; simp at this; omega, fun k hk hr => (h2.block k (by simp; omega) hr).trans (Below.heap_alloc w _ k hk)⟩
  unfold Oper.wp execOp
  simp only [ho, resolve, invoke, builtin, Sem.run_bind, Sem.run_pure, Result.andThen_ok, List.map_toArray, List.map_cons, List.map_nil, hs, hx, hrn]
  exact h v' w' (by unfold OwnI; simpa using h1) hg fun k hk => by
    rcases h3 k hk with h | h
    · exact .inl h
    · exact .inr (by simp at h; omega)

/-- The label of the block in which a slice lies now. -/
def labN (lab : Nat → Nat) (v : Value) (l : Nat) : Nat → Nat := fun b => if Go.Sl.row v = some b then l else lab b
section
variable {lab : Nat → Nat} {w w' : World} {B n j mb : Nat} {gv ov cv v' pv : Value} {gvs : List Value} {m : Value → Option Value} {bx : Nat → Nat} {D : Nat → Lv} {p : List Int}
theorem labN_old {l : Nat} (_hl : ∀ b, lab b ≠ 0 → b < w.heap.size) (hr : ∀ k, row v' = some k → row gv = some k ∨ w.heap.size ≤ k) (hg : ∀ k, row gv = some k → lab k = l) {b : Nat} (hb : b < w.heap.size) : labN lab v' l b = lab b := by
  unfold labN
  split
  · rename_i e
    rcases hr b e with h | h
    · exact (hg b h).symm
    · omega
  · rfl
/-- A generator more. -/
theorem ChM.pushG (h : ChM lab w B n cv bx D) (hpos : PosC n D) (hj : j < n) (hL : LvM lab w B j (D j) (bx j) mb gv ov gvs m) (hp : RowL lab w pv p) (hp0 : 0 < p.length) (_hB : B ≤ w.heap.size)
    (ho : Go.Sl.Own w' B 22 1 v' (gvs ++ [pv])) (hg : w.grownBy w' (row gv)) (hr : ∀ k, row v' = some k → row gv = some k ∨ w.heap.size ≤ k) :
    ChM (labN lab v' (4 * j + 2)) (w'.setCell ⟨bx j, 0, none⟩ v') B n cv bx (updC D j (addG (D j) p)) ∧ KeepL j lab (labN lab v' (4 * j + 2)) w (w'.setCell ⟨bx j, 0, none⟩ v') := by
  have hlt : ∀ b, lab b ≠ 0 → b < w.heap.size := fun b hb => (h.lt b hb).2
  have hold : ∀ b, b < w.heap.size → labN lab v' (4 * j + 2) b = lab b := fun b hb => labN_old hlt hr hL.lg hb
  have hbl : ∀ b, b < w.heap.size → lab b ≠ 4 * j + 1 → lab b ≠ 4 * j + 2 → (w'.setCell ⟨bx j, 0, none⟩ v').heap[b]? = w.heap[b]? := fun b hb h1 h2 =>
    (Below.heap_setCell w' ⟨bx j, 0, none⟩ v' b (fun e => h1 (by rw [e]; exact hL.lb))).trans (hg.block b hb fun e => h2 (hL.lg b e.symm))
  have hsz : w.heap.size ≤ (w'.setCell ⟨bx j, 0, none⟩ v').heap.size := by have := hg.size; simpa using this
  have hK : KeepL j lab (labN lab v' (4 * j + 2)) w (w'.setCell ⟨bx j, 0, none⟩ v') :=
    ⟨⟨hg.os, hg.tape, hg.output, hsz, fun k hk => absurd hk (Nat.not_lt_zero _)⟩, fun b hb hl => hbl b hb (by omega) (by omega), hold⟩
  have hrow : ∀ {v xs}, 0 < xs.length → RowL lab w v xs → RowL (labN lab v' (4 * j + 2)) (w'.setCell ⟨bx j, 0, none⟩ v') v xs := fun {v xs} h0 hr => hr.keep h0 hK
  have hsame : ∀ i, i < n → i ≠ j → ∃ mb gv ov gvs m, LvM (labN lab v' (4 * j + 2)) (w'.setCell ⟨bx j, 0, none⟩ v') B i (D i) (bx i) mb gv ov gvs m := fun i hi hij => by
    obtain ⟨mb2, gv2, ov2, gvs2, m2, hL2⟩ := h.lv i hi
    exact ⟨mb2, gv2, ov2, gvs2, m2, hL2.same hsz (fun k h1 h2 => hbl k h1 (by omega) (by omega)) hold (hpos i hi).1 (hpos i hi).2⟩
  refine ⟨⟨Go.Sl.Sl.of_block h.cs fun hl => hbl _ hl (by rw [h.cl (by omega)]; omega) (by rw [h.cl (by omega)]; omega), ?_, fun i hi => ?_, fun b hb => ?_⟩, hK⟩
  · intro hn0
    unfold labN
    split
    · rename_i e
      rcases hr _ e with h1 | h1
      · have := hL.lg _ h1; rw [h.cl (by omega)] at this; omega
      · exfalso
        have := h.cs.cell (j := 0) (by simpa using (by omega : 0 < n))
        have h2 := World.block_lt_of_cell? w _ this
        rw [vat_block] at h2
        omega
    · exact h.cl hn0
  · by_cases e : i = j
    · subst e
      rw [updC_same]
      obtain ⟨nn, hm⟩ := hL.mv
      have hml := hm.lt
      have hgl := hL.go.lt
      have hol := hL.oo.lt
      have hbox : Tri w' (bx i) gv (.map (some mb)) ov := (hg.block _ hL.box.lt fun e => by have := hL.lg _ e.symm; rw [hL.lb] at this; omega).trans hL.box
      refine ⟨mb, v', ov, gvs ++ [pv], m, hbox.set0 v', by rw [hold _ hL.box.lt]; exact hL.lb, fun k hk => by unfold labN; rw [if_pos hk], by rw [hold _ hml]; exact hL.lm, fun k hk => by rw [hold _ (hol k hk).2]; exact hL.lo k hk, ?_, by rw [List.length_append, hL.gl]; show _ = ((D i).gs ++ [p]).length; rw [List.length_append]; rfl, fun q hq => ?_, ⟨nn, ?_⟩, fun x u hu => ?_, hL.mn, ?_⟩
      · refine Go.Sl.Own.setOther ho (fun k hk e => ?_) _
        have e2 : bx i = k := e
        rcases hr k hk with h1 | h1
        · have := hL.lg k h1; rw [← e2, hL.lb] at this; omega
        · have := hL.box.lt; omega
      · have hgsl := hL.gl
        have hq2 : q < (D i).gs.length + 1 := by
          have : q < ((D i).gs ++ [p]).length := hq
          simpa using this
        rcases Nat.lt_or_ge q (D i).gs.length with h1 | h1
        · have e1 : nthv (gvs ++ [pv]) q = nthv gvs q := by simp [nthv, List.getElem?_append, hgsl, h1]
          have e2 : nthr (addG (D i) p).gs q = nthr (D i).gs q := by show nthr ((D i).gs ++ [p]) q = _; simp [nthr, List.getElem?_append, h1]
          rw [e1, e2]
          exact hrow ((hpos i hi).1 _ (by rw [nthr_lt h1]; exact List.getElem_mem h1)) (hL.gr q h1)
        · obtain rfl : q = (D i).gs.length := by omega
          have e1 : nthv (gvs ++ [pv]) (D i).gs.length = pv := by simp [nthv, hgsl]
          have e2 : nthr (addG (D i) p).gs (D i).gs.length = p := by show nthr ((D i).gs ++ [p]) _ = _; simp [nthr]
          rw [e1, e2]
          exact hrow hp0 hp
      · obtain ⟨es, c, h1, r⟩ := hm
        exact ⟨es, c, (hbl mb hml (by rw [hL.lm]; omega) (by rw [hL.lm]; omega)).trans h1, r⟩
      · obtain ⟨v, h1, h2⟩ := hL.ms x u hu
        exact ⟨v, h1, hrow ((hpos i hi).2 x u hu) h2⟩
      · exact Go.Sl.Own.of_block hL.oo fun k hk => hbl k (hol k hk).2 (by rw [hL.lo k hk]; omega) (by rw [hL.lo k hk]; omega)
    · rw [updC_other _ _ e]; exact hsame i hi e
  · unfold labN at hb
    split at hb
    · rename_i e; have := ho.lt b e; exact ⟨this.1, by simpa using this.2⟩
    · have := h.lt b hb; exact ⟨this.1, Nat.lt_of_lt_of_le this.2 hsz⟩
/-- A point is reached: the map. -/
theorem ChM.putM (h : ChM lab w B n cv bx D) (hpos : PosC n D) (hj : j < n) (hL : LvM lab w B j (D j) (bx j) mb gv ov gvs m) (hp : RowL lab w pv p) (hp0 : 0 < p.length) {x nn : Nat} {m' : Value → Option Value}
    (hm : MapV Try.prog 3 w' mb nn m') (h1 : m' (.int .i64 (x : Int)) = some pv) (h2 : ∀ key', key' ≠ .int .i64 (x : Int) → m' key' = m key') (hg : w.grownBy w' (some mb)) :
    ChM lab w' B n cv bx (updC D j ⟨(D j).gs, fun y => if y = x then some p else (D j).rc y, (D j).od⟩) ∧ KeepL j lab lab w w' ∧ LvM lab w' B j ⟨(D j).gs, fun y => if y = x then some p else (D j).rc y, (D j).od⟩ (bx j) mb gv ov gvs m' := by
  have hbl : ∀ b, b < w.heap.size → lab b ≠ 4 * j + 3 → w'.heap[b]? = w.heap[b]? := fun b hb h1 => hg.block b hb fun e => h1 (by cases e; exact hL.lm)
  have hsz := hg.size
  have hK : KeepL j lab lab w w' := ⟨⟨hg.os, hg.tape, hg.output, hsz, fun k hk => absurd hk (Nat.not_lt_zero _)⟩, fun b hb hl => hbl b hb (by omega), fun _ _ => rfl⟩
  have hrow : ∀ {v xs}, 0 < xs.length → RowL lab w v xs → RowL lab w' v xs := fun {v xs} h0 hr => hr.keep h0 hK
  have hgl := hL.go.lt
  have hol := hL.oo.lt
  have hLN : LvM lab w' B j ⟨(D j).gs, fun y => if y = x then some p else (D j).rc y, (D j).od⟩ (bx j) mb gv ov gvs m' := by
    refine ⟨(hbl _ hL.box.lt (by rw [hL.lb]; omega)).trans hL.box, hL.lb, hL.lg, hL.lm, hL.lo, Go.Sl.Own.of_block hL.go fun k hk => hbl k (hgl k hk).2 (by rw [hL.lg k hk]; omega), hL.gl, fun i hi => ?_, ⟨nn, hm⟩, fun y u hu => ?_, fun y hy => ?_, Go.Sl.Own.of_block hL.oo fun k hk => hbl k (hol k hk).2 (by rw [hL.lo k hk]; omega)⟩
    · exact hrow ((hpos j hj).1 _ (by have hi : i < (D j).gs.length := hi; rw [nthr_lt hi]; exact List.getElem_mem hi)) (hL.gr i hi)
    · have hu : (if y = x then some p else (D j).rc y) = some u := hu
      by_cases e : y = x
      · rw [if_pos e] at hu
        obtain rfl := Option.some.inj hu
        rw [e]
        exact ⟨pv, h1, hrow hp0 hp⟩
      · rw [if_neg e] at hu
        obtain ⟨v, g1, g2⟩ := hL.ms y u hu
        exact ⟨v, by rw [h2 _ (fun e2 => e (by injection e2 with _ e3; omega))]; exact g1, hrow ((hpos j hj).2 y u hu) g2⟩
    · have hy : (if y = x then some p else (D j).rc y) = none := hy
      by_cases e : y = x
      · rw [if_pos e] at hy; cases hy
      · rw [if_neg e] at hy
        rw [h2 _ (fun e2 => e (by injection e2 with _ e3; omega))]; exact hL.mn y hy
  refine ⟨⟨Go.Sl.Sl.of_block h.cs fun hl => hbl _ hl (by rw [h.cl (by omega)]; omega), h.cl, fun i hi => ?_, fun b hb => ?_⟩, hK, hLN⟩
  · by_cases e : i = j
    · subst e; rw [updC_same]; exact ⟨mb, gv, ov, gvs, m', hLN⟩
    · rw [updC_other _ _ e]
      obtain ⟨mb2, gv2, ov2, gvs2, m2, hL2⟩ := h.lv i hi
      exact ⟨mb2, gv2, ov2, gvs2, m2, hL2.same hsz (fun k h1 h2 => hbl k h1 (by omega)) (fun _ _ => rfl) (hpos i hi).1 (hpos i hi).2⟩
  · have := h.lt b hb; exact ⟨this.1, Nat.lt_of_lt_of_le this.2 hsz⟩
/-- A point is reached: the order. -/
theorem ChM.pushO (h : ChM lab w B n cv bx D) (hpos : PosC n D) (hj : j < n) (hL : LvM lab w B j (D j) (bx j) mb gv ov gvs m) {x : Nat}
    (ho : OwnI w' B v' (((D j).od.map fun x : Nat => (x : Int)) ++ [(x : Int)])) (hg : w.grownBy w' (row ov)) (hr : ∀ k, row v' = some k → row ov = some k ∨ w.heap.size ≤ k) :
    ChM (labN lab v' (4 * j + 4)) (w'.setCell ⟨bx j, 2, none⟩ v') B n cv bx (updC D j ⟨(D j).gs, (D j).rc, (D j).od ++ [x]⟩) ∧ KeepL j lab (labN lab v' (4 * j + 4)) w (w'.setCell ⟨bx j, 2, none⟩ v') ∧
      LvM (labN lab v' (4 * j + 4)) (w'.setCell ⟨bx j, 2, none⟩ v') B j ⟨(D j).gs, (D j).rc, (D j).od ++ [x]⟩ (bx j) mb gv v' gvs m := by
  have hlt : ∀ b, lab b ≠ 0 → b < w.heap.size := fun b hb => (h.lt b hb).2
  have hold : ∀ b, b < w.heap.size → labN lab v' (4 * j + 4) b = lab b := fun b hb => labN_old hlt hr hL.lo hb
  have hbl : ∀ b, b < w.heap.size → lab b ≠ 4 * j + 1 → lab b ≠ 4 * j + 4 → (w'.setCell ⟨bx j, 2, none⟩ v').heap[b]? = w.heap[b]? := fun b hb h1 h2 =>
    (Below.heap_setCell w' ⟨bx j, 2, none⟩ v' b (fun e => h1 (by rw [e]; exact hL.lb))).trans (hg.block b hb fun e => h2 (hL.lo b e.symm))
  have hsz : w.heap.size ≤ (w'.setCell ⟨bx j, 2, none⟩ v').heap.size := by have := hg.size; simpa using this
  have hK : KeepL j lab (labN lab v' (4 * j + 4)) w (w'.setCell ⟨bx j, 2, none⟩ v') :=
    ⟨⟨hg.os, hg.tape, hg.output, hsz, fun k hk => absurd hk (Nat.not_lt_zero _)⟩, fun b hb hl => hbl b hb (by omega) (by omega), hold⟩
  have hrow : ∀ {v xs}, 0 < xs.length → RowL lab w v xs → RowL (labN lab v' (4 * j + 4)) (w'.setCell ⟨bx j, 2, none⟩ v') v xs := fun {v xs} h0 hr => hr.keep h0 hK
  obtain ⟨nn, hm⟩ := hL.mv
  have hml := hm.lt
  have hgl := hL.go.lt
  have hbox : Tri w' (bx j) gv (.map (some mb)) ov := (hg.block _ hL.box.lt fun e => by have := hL.lo _ e.symm; rw [hL.lb] at this; omega).trans hL.box
  have hLN : LvM (labN lab v' (4 * j + 4)) (w'.setCell ⟨bx j, 2, none⟩ v') B j ⟨(D j).gs, (D j).rc, (D j).od ++ [x]⟩ (bx j) mb gv v' gvs m := by
    refine ⟨hbox.set2 v', by rw [hold _ hL.box.lt]; exact hL.lb, fun k hk => by rw [hold _ (hgl k hk).2]; exact hL.lg k hk, by rw [hold _ hml]; exact hL.lm, fun k hk => by unfold labN; rw [if_pos hk], Go.Sl.Own.of_block hL.go fun k hk => hbl k (hgl k hk).2 (by rw [hL.lg k hk]; omega) (by rw [hL.lg k hk]; omega), hL.gl, fun i hi => ?_, ⟨nn, ?_⟩, fun y u hu => ?_, hL.mn, ?_⟩
    · exact hrow ((hpos j hj).1 _ (by have hi : i < (D j).gs.length := hi; rw [nthr_lt hi]; exact List.getElem_mem hi)) (hL.gr i hi)
    · obtain ⟨es, c, h1, r⟩ := hm
      exact ⟨es, c, (hbl mb hml (by rw [hL.lm]; omega) (by rw [hL.lm]; omega)).trans h1, r⟩
    · obtain ⟨v, h1, h2⟩ := hL.ms y u hu
      exact ⟨v, h1, hrow ((hpos j hj).2 y u hu) h2⟩
    · show OwnI _ B v' (((D j).od ++ [x]).map fun x : Nat => (x : Int))
      rw [List.map_append]
      refine OwnI.setOther ho (fun k hk e => ?_) _
      have e2 : bx j = k := e
      rcases hr k hk with h1 | h1
      · have := hL.lo k h1; rw [← e2, hL.lb] at this; omega
      · have := hL.box.lt; omega
  refine ⟨⟨Go.Sl.Sl.of_block h.cs fun hl => hbl _ hl (by rw [h.cl (by omega)]; omega) (by rw [h.cl (by omega)]; omega), ?_, fun i hi => ?_, fun b hb => ?_⟩, hK, hLN⟩
  · intro hn0
    unfold labN
    split
    · rename_i e
      rcases hr _ e with h1 | h1
      · have := hL.lo _ h1; rw [h.cl (by omega)] at this; omega
      · exfalso
        have := h.cs.cell (j := 0) (by simpa using (by omega : 0 < n))
        have h2 := World.block_lt_of_cell? w _ this
        rw [vat_block] at h2
        omega
    · exact h.cl hn0
  · by_cases e : i = j
    · subst e; rw [updC_same]; exact ⟨mb, gv, v', gvs, m, hLN⟩
    · rw [updC_other _ _ e]
      obtain ⟨mb2, gv2, ov2, gvs2, m2, hL2⟩ := h.lv i hi
      exact ⟨mb2, gv2, ov2, gvs2, m2, hL2.same hsz (fun k h1 h2 => hbl k h1 (by omega) (by omega)) hold (hpos i hi).1 (hpos i hi).2⟩
  · unfold labN at hb
    split at hb
    · rename_i e; have := ho.lt b e; exact ⟨this.1, by simpa using this.2⟩
    · have := h.lt b hb; exact ⟨this.1, Nat.lt_of_lt_of_le this.2 hsz⟩
end
end Go.Proofs.Ytplekfgadbjgdaa


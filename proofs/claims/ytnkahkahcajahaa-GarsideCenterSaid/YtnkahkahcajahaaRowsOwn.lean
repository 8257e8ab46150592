/- Slices of own rows: made, appended to, clipped. -/
import Derived.Test.YtnkahkahcajahaaGrid
import Derived.Test.YtnkahkahcajahaaClip
namespace Go.Proofs.Ytnkahkahcajahaa
open Go.RowKit Go.Sl

/-- The call's own slice of the call's own rows, none empty, each in a block of its own. -/
structure RO (W : World) (B : Nat) (v : Value) (vs : List Value) (xss : List (List Int)) : Prop where
  own : Go.Sl.Own W B 22 1 v vs
  len : vs.length = xss.length
  row : ∀ i, i < xss.length → OwnI W B (nthv vs i) (nthr xss i)
  pos : ∀ i, i < xss.length → 0 < (nthr xss i).length
  apart : ∀ i, i < xss.length → Go.Sl.row v ≠ some (vblk (nthv vs i))
  each : ∀ i j, i < j → j < xss.length → vblk (nthv vs i) ≠ vblk (nthv vs j)
section
variable {W W' : World} {B : Nat} {u r : Value} {vs : List Value} {xss : List (List Int)} {ys : List Int}
theorem RO.rows (h : RO W B u vs xss) : RowsV W u vs xss := ⟨h.own.sl, h.len, fun i hi => (h.row i hi).ints⟩
theorem RO.below (h : RO W B u vs xss) (hb : Below W.heap.size W W') : RO W' B u vs xss := ⟨h.own.below hb, h.len, fun i hi => (h.row i hi).below hb, h.pos, h.apart, h.each⟩
theorem RO.low {B' : Nat} (h : RO W B u vs xss) (hB : B' ≤ B) : RO W B' u vs xss := ⟨h.own.low hB, h.len, fun i hi => (h.row i hi).low hB, h.pos, h.apart, h.each⟩
theorem RO.rowAt (h : RO W B u vs xss) {i : Nat} (hi : i < xss.length) : Go.Sl.row (nthv vs i) = some (vblk (nthv vs i)) := row_some (by have := (h.row i hi).ints.cap; have := h.pos i hi; omega)
theorem RO.blk (h : RO W B u vs xss) {i : Nat} (hi : i < xss.length) : B ≤ vblk (nthv vs i) ∧ vblk (nthv vs i) < W.heap.size := (h.row i hi).lt _ (h.rowAt hi)
end
theorem ro_one {w : World} {B : Nat} {r : Value} {ys : List Int} (hy : OwnI w B r ys) (h0 : 0 < ys.length) (hB : B ≤ w.heap.size) : RO (w.alloc (.cells #[r] 22)) B (.slice (some ⟨w.heap.size, 0, none⟩) 1 1) [r] [ys] := by
  have hr : Go.Sl.row r = some (vblk r) := row_some (by have := hy.ints.cap; omega)
  have hl := (hy.lt _ hr).2
  refine ⟨⟨isSl_mk _ _ _ _ (Nat.le_refl _) (by unfold maxLen; omega), by simp, fun _ => ⟨hB, rfl, _, heap_alloc_new w _, by simp, by simp⟩⟩, rfl, fun i hi => ?_, fun i hi => ?_, fun i hi => ?_, fun i j hij hj => ?_⟩
  · simp only [List.length_cons, List.length_nil] at hi
    obtain rfl : i = 0 := by omega
    exact hy.below ((Below.refl _ _).alloc (Nat.le_refl _) _)
  · simp only [List.length_cons, List.length_nil] at hi
    obtain rfl : i = 0 := by omega
    exact h0
  · simp only [List.length_cons, List.length_nil] at hi
    obtain rfl : i = 0 := by omega
    intro e
    have : w.heap.size = vblk r := Option.some.inj e
    omega
  · simp only [List.length_cons, List.length_nil] at hj
    omega
/-- append of one row of the call's own. -/
theorem wpList_pushRO {w : World} {ops : Array Oper} {rest : List Oper} {o : Oper} {a : Act} {Q : Exit → Act → World → Prop} (hgd : o.guard = none) (s x : Operand)
    (ho : o.op = .call { callee := .builtin .append, args := #[s, x], argTypes := #[31, 31] })
    {B : Nat} {v r : Value} {vs : List Value} {xss : List (List Int)} {ys : List Int} (hs : a.eval s = v) (hx : a.eval x = .slice (some ⟨w.heap.size, 0, none⟩) 1 1) (hown : RO w B v vs xss) (hy : OwnI w B r ys) (h0 : 0 < ys.length) (hB : B ≤ w.heap.size) (hlen : xss.length ≤ 1000000000000)
    (hap : Go.Sl.row v ≠ some (vblk r)) (hea : ∀ i, i < xss.length → vblk (nthv vs i) ≠ vblk r)
    (h : ∀ v' w', RO w' B v' (vs ++ [r]) (xss ++ [ys]) → w.grownBy w' (Go.Sl.row v) → wpList Try.prog ops Q rest (a.put o.dst v') w') :
    wpList Try.prog ops Q (o :: rest) a (w.alloc (.cells #[r] 22)) := by
  obtain ⟨i, hi, hz0, hz1, hz2⟩ := info_parts info_slice
  have hl : vlen v = xss.length := hown.rows.len
  have hvl := hown.len
  refine wpList_append_sl hgd s x _ ho B 22 i _ 1 24 Try.underlying31 hi hz0 hz1 hz2 rfl (by decide) hs hx (Own.alloc hown.own _) (sl_one w r 22)
    (by intro u hu; simp at hu; subst hu; exact oneCell'_sl hy.isSl) (by simp only [vlen_mk, hl, maxLen]; omega) (by simp only [vlen_mk, hl]; omega) (by simp; omega) ?_
  intro v' w' h1 h2 h3
  have hg : w.grownBy w' (Go.Sl.row v) := ⟨h2.os, h2.tape, h2.output, by have := h2.size; simp at this; omega, fun k hk hr => (h2.block k (by simp; omega) hr).trans (Below.heap_alloc w _ k hk)⟩
  have hfr : ∀ k, Go.Sl.row v' = some k → Go.Sl.row v = some k ∨ w.heap.size ≤ k := by
    intro k hk; rcases h3 k hk with h | h
    · exact .inl h
    · exact .inr (by simp at h; omega)
  have hnv : ∀ i, i < xss.length → nthv (vs ++ [r]) i = nthv vs i ∧ nthr (xss ++ [ys]) i = nthr xss i := by
    intro i hi
    simp [nthv, nthr, List.getElem?_append, hvl, hi]
  have hlast : nthv (vs ++ [r]) xss.length = r ∧ nthr (xss ++ [ys]) xss.length = ys := by
    simp [nthv, nthr, hvl]
  have hrr : Go.Sl.row r = some (vblk r) := row_some (by have := hy.ints.cap; omega)
  have hrl := (hy.lt _ hrr).2
  refine h v' w' ⟨h1, by simp [hvl], fun i hi => ?_, fun i hi => ?_, fun i hi e => ?_, fun i j hij hj => ?_⟩ hg
  · simp only [List.length_append, List.length_cons, List.length_nil] at hi
    rcases Nat.lt_or_ge i xss.length with hlt | hge
    · rw [(hnv i hlt).1, (hnv i hlt).2]
      refine Go.Sl.Own.grown (hown.row i hlt) hg fun k hk e => ?_
      rw [hown.rowAt hlt] at hk
      exact hown.apart i hlt (by rw [e, hk])
    · obtain rfl : i = xss.length := by omega
      rw [hlast.1, hlast.2]
      refine Go.Sl.Own.grown hy hg fun k hk e => ?_
      rw [hrr] at hk
      exact hap (by rw [e, hk])
  · simp only [List.length_append, List.length_cons, List.length_nil] at hi
    rcases Nat.lt_or_ge i xss.length with hlt | hge
    · rw [(hnv i hlt).2]; exact hown.pos i hlt
    · obtain rfl : i = xss.length := by omega
      rw [hlast.2]; exact h0
  · simp only [List.length_append, List.length_cons, List.length_nil] at hi
    rcases Nat.lt_or_ge i xss.length with hlt | hge
    · rw [(hnv i hlt).1] at e
      rcases hfr _ e with h4 | h4
      · exact hown.apart i hlt h4
      · have := (hown.blk hlt).2; omega
    · obtain rfl : i = xss.length := by omega
      rw [hlast.1] at e
      rcases hfr _ e with h4 | h4
      · exact hap h4
      · omega
  · simp only [List.length_append, List.length_cons, List.length_nil] at hj
    rw [(hnv i (by omega)).1]
    rcases Nat.lt_or_ge j xss.length with hlt | hge
    · rw [(hnv j hlt).1]; exact hown.each i j hij hlt
    · obtain rfl : j = xss.length := by omega
      rw [hlast.1]; exact hea i hij

theorem own_clip {w : World} {B : Nat} {e : TypeId} {v : Value} {cs : List Value} (h : Own w B e 1 v cs) : Own w B e 1 (vcut v 0 cs.length cs.length 1) cs ∧ Go.Sl.row (vcut v 0 cs.length cs.length 1) = (if cs.length = 0 then none else Go.Sl.row v) := by
  have hl : vlen v = cs.length := by have := h.2.1; omega
  have hcap := h.1.le
  rw [hl] at hcap
  obtain ⟨a, n, c, rfl, hn, hc, ha⟩ := h.1.cases
  have hnl : cs.length = n := by simpa [vlen_mk] using hl.symm
  rw [vcap_mk] at hcap
  rcases Nat.eq_zero_or_pos cs.length with h0 | h0
  · rw [h0]
    refine ⟨⟨⟨rfl, by simp [vcut, vlen, vcap], by simp [vcut, vcap], fun hp => by simp [vcut, vcap] at hp⟩, by simp [vcut, h0], fun hp => by simp [vcut, vcap] at hp⟩, by simp [Go.Sl.row, vcut, vcap]⟩
  · obtain ⟨hB, ho', cur, hg, hcs, htake⟩ := h.2.2 (by rw [vcap_mk]; omega)
    obtain ⟨g, o, rfl⟩ := ha (by omega)
    have ho'' : o = 0 := ho'
    subst ho''
    have hcut : vcut (.slice (some ⟨g, 0, none⟩) n c) 0 cs.length cs.length 1 = .slice (some ⟨g, 0, none⟩) cs.length cs.length := by
      have hne : ¬ cs.length = 0 := by omega
      simp [vcut, hne, Addr.add_lit]
    rw [hcut]
    rw [vcap_mk] at hcs
    refine ⟨⟨isSl_mk _ _ _ _ (Nat.le_refl _) (by omega), by simp, fun _ => ⟨hB, rfl, cur, hg, by rw [vcap_mk]; omega, htake⟩⟩, ?_⟩
    rw [if_neg (by omega), row_some (v := .slice (some ⟨g, 0, none⟩) cs.length cs.length) (by rw [vcap_mk]; omega), row_some (v := .slice (some ⟨g, 0, none⟩) n c) (by rw [vcap_mk]; omega)]
    rfl
theorem RO.clip {W : World} {B : Nat} {u : Value} {vs : List Value} {xss : List (List Int)} (h : RO W B u vs xss) : RO W B (vcut u 0 xss.length xss.length 1) vs xss := by
  have hc := own_clip h.own
  rw [h.len] at hc
  exact ⟨hc.1, h.len, h.row, h.pos, fun i hi => by rw [hc.2, if_neg (by omega)]; exact h.apart i hi, h.each⟩

theorem clipRows_calls (v : Value) (vs : List Value) (xss : List (List Int)) (B : Nat) (w : World) (h : RO w B v vs xss) :
    Calls Try.prog 78 #[v] w fun e w' => w = w' ∧ ∃ v', e = .returned v' ∧ RO w B v' vs xss := by
  have sv := h.rows.isSl
  have lv := h.rows.len
  have hcap := sv.le
  rw [lv] at hcap
  have H := Lib.hid h; clear h
  go_enter Try.func78, Try.ntmps78
  go_wp2
  go_ret
  exact ⟨rfl, _, rfl, H.out.clip⟩

end Go.Proofs.Ytnkahkahcajahaa

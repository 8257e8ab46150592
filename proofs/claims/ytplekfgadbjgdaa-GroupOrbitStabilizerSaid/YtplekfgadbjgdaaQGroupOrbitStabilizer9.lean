/- Slices of own rows: made, appended to, clipped. -/
import Derived.Test.YtplekfgadbjgdaaQGroupOrbitStabilizer0
import Derived.Test.YtplekfgadbjgdaaQGroupOrbitStabilizer1
import Derived.Test.YtplekfgadbjgdaaQGroupOrbitStabilizer2
import Derived.Test.YtplekfgadbjgdaaQGroupOrbitStabilizer3
import Derived.Test.YtplekfgadbjgdaaQGroupOrbitStabilizer8

namespace Go.Proofs.Ytplekfgadbjgdaa
open Go.RowKit Go.Sl

/-- The call's own slice of the call's own rows, none empty, each in a block of its own. -/
structure RO (W : World) (B : Nat) (v : Value) (vs : List Value) (xss : List (List Int)) : Prop where
  own : Go.Sl.Own W B 22 1 v vs
  len : vs.length = xss.length
  row : ∀ i, i < xss.length → OwnI W B (nthv vs i) (nthr xss i)
  pos : ∀ i, i < xss.length → 0 < (nthr xss i).length
  apart : ∀ i, i < xss.length → Go.Sl.row v ≠ some (vblk (nthv vs i))
  each : ∀ i j, i < j → j < xss.length → vblk (nthv vs i) ≠ vblk (nthv vs j)
section
variable {W W' : World} {B : Nat} {u r : Value} {vs : List Value} {xss : List (List Int)} {ys : List Int}
theorem RO.rows (h : RO W B u vs xss) : RowsV W u vs xss := ⟨h.own.sl, h.len, fun i hi => (h.row i hi).ints⟩
theorem RO.below (h : RO W B u vs xss) (hb : Below W.heap.size W W') : RO W' B u vs xss := ⟨h.own.below hb, h.len, fun i hi => (h.row i hi).below hb, h.pos, h.apart, h.each⟩
theorem RO.low {B' : Nat} (h : RO W B u vs xss) (hB : B' ≤ B) : RO W B' u vs xss := ⟨h.own.low hB, h.len, fun i hi => (h.row i hi).low hB, h.pos, h.apart, h.each⟩
theorem RO.rowAt (h : RO W B u vs xss) {i : Nat} (hi : i < xss.length) : Go.Sl.row (nthv vs i) = some (vblk (nthv vs i)) := row_some (by have := (h.row i hi).ints.cap; have := h.pos i hi; omega)
theorem RO.blk (h : RO W B u vs xss) {i : Nat} (hi : i < xss.length) : B ≤ vblk (nthv vs i) ∧ vblk (nthv vs i) < W.heap.size := (h.row i hi).lt _ (h.rowAt hi)
end
theorem own_clip {w : World} {B : Nat} {e : TypeId} {v : Value} {cs : List Value} (h : Own w B e 1 v cs) : Own w B e 1 (vcut v 0 cs.length cs.length 1) cs ∧ Go.Sl.row (vcut v 0 cs.length cs.length 1) = (if cs.length = 0 then none else Go.Sl.row v) := by
  have hl : vlen v = cs.length := by have := h.2.1; omega
  have hcap := h.1.le
  rw [hl] at hcap
  obtain ⟨a, n, c, rfl, hn, hc, ha⟩ := h.1.cases
  have hnl : cs.length = n := by simpa [vlen_mk] using hl.symm
  rw [vcap_mk] at hcap
  rcases Nat.eq_zero_or_pos cs.length with h0 | h0
  · rw [h0]
    refine ⟨⟨⟨rfl, by simp [vcut, vlen, vcap], by simp [vcut, vcap], fun hp => by simp [vcut, vcap] at hp⟩, by simp [vcut, h0], fun hp => by simp [vcut, vcap] at hp⟩, by simp [Go.Sl.row, vcut, vcap]⟩
  · obtain ⟨hB, ho', cur, hg, hcs, htake⟩ := h.2.2 (by rw [vcap_mk]; omega)
    obtain ⟨g, o, rfl⟩ := ha (by omega)
    have ho'' : o = 0 := ho'
    subst ho''
    have hcut : vcut (.slice (some ⟨g, 0, none⟩) n c) 0 cs.length cs.length 1 = .slice (some ⟨g, 0, none⟩) cs.length cs.length := by
      have hne : ¬ cs.length = 0 := by omega
      simp [vcut, hne, Addr.add_lit]
    rw [hcut]
    rw [vcap_mk] at hcs
    refine ⟨⟨isSl_mk _ _ _ _ (Nat.le_refl _) (by omega), by simp, fun _ => ⟨hB, rfl, cur, hg, by rw [vcap_mk]; omega, htake⟩⟩, ?_⟩
    rw [if_neg (by omega), row_some (v := .slice (some ⟨g, 0, none⟩) cs.length cs.length) (by rw [vcap_mk]; omega), row_some (v := .slice (some ⟨g, 0, none⟩) n c) (by rw [vcap_mk]; omega)]
    rfl
theorem RO.clip {W : World} {B : Nat} {u : Value} {vs : List Value} {xss : List (List Int)} (h : RO W B u vs xss) : RO W B (vcut u 0 xss.length xss.length 1) vs xss := by
  have hc := own_clip h.own
  rw [h.len] at hc
  exact ⟨hc.1, h.len, h.row, h.pos, fun i hi => by rw [hc.2, if_neg (by omega)]; exact h.apart i hi, h.each⟩

theorem clipRows_calls (v : Value) (vs : List Value) (xss : List (List Int)) (B : Nat) (w : World) (h : RO w B v vs xss) :
    Calls Try.prog 62 #[v] w fun e w' => w = w' ∧ ∃ v', e = .returned v' ∧ RO w B v' vs xss := by
  have sv := h.rows.isSl
  have lv := h.rows.len
  have hcap := sv.le
  rw [lv] at hcap
  have H := Lib.hid h; clear h
  go_enter Try.func62, Try.ntmps62
  go_wp2
  go_ret
  exact ⟨rfl, _, rfl, H.out.clip⟩

end Go.Proofs.Ytplekfgadbjgdaa


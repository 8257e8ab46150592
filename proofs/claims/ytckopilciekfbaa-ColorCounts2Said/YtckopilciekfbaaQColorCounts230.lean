/- The determinant of a matrix of small polynomials: what fits, and its laws. -/
import Derived.Test.YtckopilciekfbaaQColorCounts20
import Derived.Test.YtckopilciekfbaaQColorCounts21
import Derived.Test.YtckopilciekfbaaQColorCounts22
import Derived.Test.YtckopilciekfbaaQColorCounts23
import Derived.Test.YtckopilciekfbaaQColorCounts24
import Derived.Test.YtckopilciekfbaaQColorCounts25
import Derived.Test.YtckopilciekfbaaQColorCounts26
import Derived.Test.YtckopilciekfbaaQColorCounts27
import Derived.Test.YtckopilciekfbaaQColorCounts28
import Derived.Test.YtckopilciekfbaaQColorCounts210
import Derived.Test.YtckopilciekfbaaQColorCounts211
import Derived.Test.YtckopilciekfbaaQColorCounts212
import Derived.Test.YtckopilciekfbaaQColorCounts213
import Derived.Test.YtckopilciekfbaaQColorCounts214
import Derived.Test.YtckopilciekfbaaQColorCounts219
import Derived.Test.YtckopilciekfbaaQColorCounts224
import Derived.Test.YtckopilciekfbaaQColorCounts226
import Derived.Test.YtckopilciekfbaaQColorCounts227
import Derived.Test.YtckopilciekfbaaQColorCounts228
import Derived.Test.YtckopilciekfbaaQColorCounts229
import Derived.Deep.RegionHeld3
import Derived.RangeFuncNested
import Derived.RangeFuncBound
import Derived.RangeFuncCalls
import Derived.RangeFuncLeaves
import Derived.RangeFuncBox
import Derived.Shelf.Abstract
import Derived.Shelf.RegionOpen
import Derived.OwnWalkIn
import Derived.TacticsInMore
import Derived.LoopNIn
import Derived.LoopIn
import Derived.Maps.AppendAt
import Derived.Deep.CutRange
namespace Go.Proofs.Ytckopilciekfbaa
open Go.RowKit Go.Sl

theorem pcs_one : ∀ (us : List Value) (ps : List LP), (∀ j, j < ps.length → IsSl (nthv us j)) → us.length = ps.length → ∀ x ∈ pcs us ps, x.oneCell' = true
  | [], [], _, _, x, hx => by simp [pcs] at hx
  | u :: us, p :: ps, h, hl, x, hx => by
    simp only [pcs, List.mem_cons] at hx
    rcases hx with rfl | rfl | hx
    · rfl
    · have := h 0 (by simp); simp [nthv] at this; exact oneCell'_sl this
    · exact pcs_one us ps (fun j hj => by have := h (j + 1) (by simpa using hj); simpa [nthv] using this) (by simpa using hl) x hx
theorem PRead.one {w : World} {v : Value} {us : List Value} {ps : List LP} (h : PRead w v us ps) : ∀ u ∈ pcs us ps, u.oneCell' = true := pcs_one us ps (fun j hj => (h.each j hj).isSl) h.len
end Go.Proofs.Ytckopilciekfbaa

namespace Go.Proofs.Ytckopilciekfbaa
open Go.RowKit Go.Sl

/-- Own blocks of different types are different ones. -/
theorem own_types {W : World} {B B' : Nat} {e e' : TypeId} (hne : e ≠ e') {s s' : Nat} {u v : Value} {cs ds : List Value} (h : Go.Sl.Own W B e s u cs) (k : Go.Sl.Own W B' e' s' v ds) : ∀ b, Go.Sl.row u = some b → Go.Sl.row v ≠ some b := by
  intro b hb hb'
  obtain ⟨h0, rfl⟩ := row_eq hb
  obtain ⟨k0, e1⟩ := row_eq hb'
  obtain ⟨_, _, c1, x1, _⟩ := h.2.2 h0
  obtain ⟨_, _, c2, x2, _⟩ := k.2.2 k0
  rw [e1, x1] at x2
  injection x2 with x2
  injection x2 with _ x3
  exact hne x3
def cutV (c : Nat) (r : List Value) : List Value := r.take c ++ r.drop (c + 1)
/-- Rows that have been cut so far. -/
def CutRows (W : World) (B : Nat) (u : Value) (ws : List Value) (uss : Nat → List Value) (k j : Nat) (m : List (List LP)) : Prop :=
  Go.Sl.Own W B 75 1 u ws ∧ ws.length = j ∧ ∀ i, i < j → Go.Sl.Own W B 35 2 (nthv ws i) (pcs (cutV k (uss (i + 1))) (cutR k (nthm m (i + 1))))
theorem CutRows.below {W W' : World} {B : Nat} {u : Value} {ws : List Value} {uss : Nat → List Value} {k j : Nat} {m : List (List LP)} (h : CutRows W B u ws uss k j m) (hb : Below W.heap.size W W') : CutRows W' B u ws uss k j m :=
  ⟨h.1.below hb, h.2.1, fun i hi => (h.2.2 i hi).below hb⟩
theorem CutRows.push {W W' : World} {B : Nat} {u r u' : Value} {ws : List Value} {uss : Nat → List Value} {k j : Nat} {m : List (List LP)} (h : CutRows W B u ws uss k j m)
    (hr : Go.Sl.Own W B 35 2 r (pcs (cutV k (uss (j + 1))) (cutR k (nthm m (j + 1))))) (hg : W.grownBy W' (Go.Sl.row u)) (ho : Go.Sl.Own W' B 75 1 u' (ws ++ [r])) : CutRows W' B u' (ws ++ [r]) uss k (j + 1) m := by
  have hn : (35 : TypeId) ≠ 75 := by decide
  refine ⟨ho, by simp [h.2.1], fun i hi => ?_⟩
  by_cases e : i = j
  · subst e
    have e2 : nthv (ws ++ [r]) i = r := by rw [← h.2.1]; simp [nthv]
    rw [e2]
    exact hr.grown hg fun b hb hb' => own_types hn hr h.1 b hb hb'
  · have e2 : nthv (ws ++ [r]) i = nthv ws i := by
      unfold nthv; rw [List.getD_eq_getElem?_getD, List.getD_eq_getElem?_getD, List.getElem?_append_left (by rw [h.2.1]; omega)]
    rw [e2]
    have hi2 := h.2.2 i (by omega)
    exact hi2.grown hg fun b hb hb' => own_types hn hi2 h.1 b hb hb'
theorem MRead.tail {W : World} {v : Value} {vs : List Value} {m : List (List LP)} (h : MRead W v vs m) (h0 : 0 < m.length) : Sl W (vcut v 1 m.length (vcap v) 1) 1 (vs.drop 1) := by
  have hl := h.vlen
  have hcap := h.isSl.le
  have := h.sl.cut (l := 1) (r := m.length) (m := vcap v) (by omega) (by omega) (by omega) (Nat.le_refl _)
  have e : (vs.drop (1 * 1)).take ((m.length - 1) * 1) = vs.drop 1 := List.take_of_length_le (by simp [h.len])
  rwa [e] at this
end Go.Proofs.Ytckopilciekfbaa

namespace Go.Proofs.Ytckopilciekfbaa
open Go.RowKit Go.Sl

/-- An element that polymatrix allows. -/
structure PElem (p : LP) : Prop where
  ok : POk p
  len : p.c.length ≤ 20
  lo1 : -20 ≤ p.low
  lo2 : p.low ≤ 20
  co : ∀ x ∈ p.c, -1000 ≤ x ∧ x ≤ 1000

end Go.Proofs.Ytckopilciekfbaa

namespace Go.Proofs.Ytckopilciekfbaa
open Go.RowKit Go.Sl

/-- An entry: made of at most four numbers. -/
structure EB (p : LP) : Prop where
  tr : Trimmed p
  wi : Within p (-10) 14
  sum : n1 p.c ≤ 200
  len : p.c.length ≤ 4
theorem EB.zero : EB pzero := ⟨pzero_trimmed, within_pzero _ _, by simp [pzero, n1], by simp [pzero]⟩
theorem EB.elem {p : LP} (h : EB p) : PElem p := by
  have hok : POk p := POk.of h.tr h.wi (by omega) (by omega) (by omega) (by omega) (by have := h.sum; omega)
  refine ⟨hok, ?_, ?_, ?_, fun x hx => by have := n1_mem hx; have := h.sum; omega⟩
  · have := h.len; omega
  · rcases h.wi with e | e
    · rw [h.tr.zero e]; omega
    · omega
  · rcases h.wi with e | e
    · rw [h.tr.zero e]; omega
    · omega
end Go.Proofs.Ytckopilciekfbaa


/- Permutations and their crossings: neighbours exchanged as places or as values; inversions. No program. -/
import Derived.Test.YtnmklkjlcpgjmaaQDehornoyRelations0
import Derived.Test.YtnmklkjlcpgjmaaQDehornoyRelations1
import Derived.Deep.QuietTactic
import Derived.BigQuiet
namespace Go.Proofs.Ytnmklkjlcpgjmaa
open Go.RowKit Go.Sl

/-- A letter acts on the four coordinates of its strands. -/
def dynP (a b c d : Int) : Int × Int × Int × Int :=
  (a + max b 0 + max (max d 0 - (a - min b 0 - c + max d 0)) 0, d - max (a - min b 0 - c + max d 0) 0, c + min d 0 + min (min b 0 + (a - min b 0 - c + max d 0)) 0, b + max (a - min b 0 - c + max d 0) 0)
def dynN (a b c d : Int) : Int × Int × Int × Int :=
  (a - max b 0 - max (max d 0 + (a + min b 0 - c - max d 0)) 0, d + min (a + min b 0 - c - max d 0) 0, c - min d 0 - min (min b 0 - (a + min b 0 - c - max d 0)) 0, b - min (a + min b 0 - c - max d 0) 0)
theorem dyn_pn (a b c d : Int) : (let q := dynP a b c d; dynN q.1 q.2.1 q.2.2.1 q.2.2.2) = (a, b, c, d) := by
  simp only [dynP, dynN, Prod.mk.injEq]
  refine ⟨?_, ?_, ?_, ?_⟩ <;> omega
theorem dyn_np (a b c d : Int) : (let q := dynN a b c d; dynP q.1 q.2.1 q.2.2.1 q.2.2.2) = (a, b, c, d) := by
  simp only [dynP, dynN, Prod.mk.injEq]
  refine ⟨?_, ?_, ?_, ?_⟩ <;> omega
theorem dq11n {a b c d a' b' c' d' : Int} (h : dynP a b c d = (a', b', c', d')) (h0 : 0 ≤ b) (h1 : 0 ≤ d) (h2 : a - c + d ≤ 0) : b + c = a' ∧ d = b' ∧ a + d = c' ∧ b = d' := by
  simp only [dynP, Prod.mk.injEq] at h
  omega
theorem dq11p11 {a b c d a' b' c' d' : Int} (h : dynP a b c d = (a', b', c', d')) (h0 : 0 ≤ b) (h1 : 0 ≤ d) (h2 : 0 ≤ a - c + d) (h3 : 0 ≤ -a + c) : b + c = a' ∧ -a + c = b' ∧ c = c' ∧ a + b - c + d = d' := by
  simp only [dynP, Prod.mk.injEq] at h
  omega
theorem dq11p01 {a b c d a' b' c' d' : Int} (h : dynP a b c d = (a', b', c', d')) (h0 : 0 ≤ b) (h1 : 0 ≤ d) (h2 : 0 ≤ a - c + d) (h3 : -a + c ≤ 0) : a + b = a' ∧ -a + c = b' ∧ c = c' ∧ a + b - c + d = d' := by
  simp only [dynP, Prod.mk.injEq] at h
  omega
theorem dq10n {a b c d a' b' c' d' : Int} (h : dynP a b c d = (a', b', c', d')) (h0 : 0 ≤ b) (h1 : d ≤ 0) (h2 : a - c ≤ 0) : b + c = a' ∧ d = b' ∧ a + d = c' ∧ b = d' := by
  simp only [dynP, Prod.mk.injEq] at h
  omega
theorem dq10p01 {a b c d a' b' c' d' : Int} (h : dynP a b c d = (a', b', c', d')) (h0 : 0 ≤ b) (h1 : d ≤ 0) (h2 : 0 ≤ a - c) : a + b = a' ∧ -a + c + d = b' ∧ c + d = c' ∧ a + b - c = d' := by
  simp only [dynP, Prod.mk.injEq] at h
  omega
theorem dq01n {a b c d a' b' c' d' : Int} (h : dynP a b c d = (a', b', c', d')) (h0 : b ≤ 0) (h1 : 0 ≤ d) (h2 : a - b - c + d ≤ 0) : b + c = a' ∧ d = b' ∧ a + d = c' ∧ b = d' := by
  simp only [dynP, Prod.mk.injEq] at h
  omega
theorem dq01p11 {a b c d a' b' c' d' : Int} (h : dynP a b c d = (a', b', c', d')) (h0 : b ≤ 0) (h1 : 0 ≤ d) (h2 : 0 ≤ a - b - c + d) (h3 : 0 ≤ -a + b + c) (h4 : 0 ≤ a - c + d) : b + c = a' ∧ -a + b + c = b' ∧ c = c' ∧ a - c + d = d' := by
  simp only [dynP, Prod.mk.injEq] at h
  omega
theorem dq01p10 {a b c d a' b' c' d' : Int} (h : dynP a b c d = (a', b', c', d')) (h0 : b ≤ 0) (h1 : 0 ≤ d) (h2 : 0 ≤ a - b - c + d) (h3 : 0 ≤ -a + b + c) (h4 : a - c + d ≤ 0) : b + c = a' ∧ -a + b + c = b' ∧ a + d = c' ∧ a - c + d = d' := by
  simp only [dynP, Prod.mk.injEq] at h
  omega
theorem dq01p01 {a b c d a' b' c' d' : Int} (h : dynP a b c d = (a', b', c', d')) (h0 : b ≤ 0) (h1 : 0 ≤ d) (h2 : 0 ≤ a - b - c + d) (h3 : -a + b + c ≤ 0) (h4 : 0 ≤ a - c + d) : a = a' ∧ -a + b + c = b' ∧ c = c' ∧ a - c + d = d' := by
  simp only [dynP, Prod.mk.injEq] at h
  omega
theorem dq01p00 {a b c d a' b' c' d' : Int} (h : dynP a b c d = (a', b', c', d')) (h0 : b ≤ 0) (h1 : 0 ≤ d) (h2 : 0 ≤ a - b - c + d) (h3 : -a + b + c ≤ 0) (h4 : a - c + d ≤ 0) : a = a' ∧ -a + b + c = b' ∧ a + d = c' ∧ a - c + d = d' := by
  simp only [dynP, Prod.mk.injEq] at h
  omega
theorem dq00n {a b c d a' b' c' d' : Int} (h : dynP a b c d = (a', b', c', d')) (h0 : b ≤ 0) (h1 : d ≤ 0) (h2 : a - b - c ≤ 0) : b + c = a' ∧ d = b' ∧ a + d = c' ∧ b = d' := by
  simp only [dynP, Prod.mk.injEq] at h
  omega
theorem dq00p01 {a b c d a' b' c' d' : Int} (h : dynP a b c d = (a', b', c', d')) (h0 : b ≤ 0) (h1 : d ≤ 0) (h2 : 0 ≤ a - b - c) (h3 : 0 ≤ a - c) : a = a' ∧ -a + b + c + d = b' ∧ c + d = c' ∧ a - c = d' := by
  simp only [dynP, Prod.mk.injEq] at h
  omega
theorem dq00p00 {a b c d a' b' c' d' : Int} (h : dynP a b c d = (a', b', c', d')) (h0 : b ≤ 0) (h1 : d ≤ 0) (h2 : 0 ≤ a - b - c) (h3 : a - c ≤ 0) : a = a' ∧ -a + b + c + d = b' ∧ a + d = c' ∧ a - c = d' := by
  simp only [dynP, Prod.mk.injEq] at h
  omega
end Go.Proofs.Ytnmklkjlcpgjmaa

namespace Go.Proofs.Ytnmklkjlcpgjmaa
open Go.RowKit Go.Sl

set_option maxHeartbeats 8000000 in
theorem dyn_all {a b c d e f a1 b1 c1 d1 C1 D1 E1 F1 c2 d2 e2 f2 A2 B2 C2 D2 a3 b3 c3 d3 C3 D3 E3 F3 : Int} (hp : dynP a b c d = (a1, b1, c1, d1)) (hq : dynP c d e f = (C1, D1, E1, F1)) (hx : dynP c1 d1 e f = (c2, d2, e2, f2)) (hr : dynP a b C1 D1 = (A2, B2, C2, D2)) (hy : dynP a1 b1 c2 d2 = (a3, b3, c3, d3)) (hw : dynP C2 D2 E1 F1 = (C3, D3, E3, F3)) :
    a3 = A2 ∧ b3 = B2 ∧ c3 = C3 ∧ d3 = D3 ∧ e2 = E3 ∧ f2 = F3 := by
  rcases Int.le_total 0 (b) with k | k
  · rcases Int.le_total 0 (d) with k | k
    · rcases Int.le_total 0 (a - c + d) with k | k
      · rcases Int.le_total 0 (-a + c) with k | k
        · obtain ⟨rfl, rfl, rfl, rfl⟩ := dq11p11 hp (by omega) (by omega) (by omega) (by omega)
          rcases Int.le_total 0 (f) with k | k
          · rcases Int.le_total 0 (c - e + f) with k | k
            · rcases Int.le_total 0 (-c + e) with k | k
              · obtain ⟨rfl, rfl, rfl, rfl⟩ := dq11p11 hq (by omega) (by omega) (by omega) (by omega)
                obtain ⟨rfl, rfl, rfl, rfl⟩ := dq11p11 hx (by omega) (by omega) (by omega) (by omega)
                obtain ⟨rfl, rfl, rfl, rfl⟩ := dq11n hr (by omega) (by omega) (by omega)
                obtain ⟨rfl, rfl, rfl, rfl⟩ := dq11n hy (by omega) (by omega) (by omega)
                obtain ⟨rfl, rfl, rfl, rfl⟩ := dq11p11 hw (by omega) (by omega) (by omega) (by omega)
                refine ⟨?_, ?_, ?_, ?_, ?_, ?_⟩ <;> omega
              · obtain ⟨rfl, rfl, rfl, rfl⟩ := dq11p01 hq (by omega) (by omega) (by omega) (by omega)
                obtain ⟨rfl, rfl, rfl, rfl⟩ := dq11p01 hx (by omega) (by omega) (by omega) (by omega)
                obtain ⟨rfl, rfl, rfl, rfl⟩ := dq10n hr (by omega) (by omega) (by omega)
                obtain ⟨rfl, rfl, rfl, rfl⟩ := dq10n hy (by omega) (by omega) (by omega)
                obtain ⟨rfl, rfl, rfl, rfl⟩ := dq11p11 hw (by omega) (by omega) (by omega) (by omega)
                refine ⟨?_, ?_, ?_, ?_, ?_, ?_⟩ <;> omega
            · obtain ⟨rfl, rfl, rfl, rfl⟩ := dq11n hq (by omega) (by omega) (by omega)
              obtain ⟨rfl, rfl, rfl, rfl⟩ := dq11n hx (by omega) (by omega) (by omega)
              obtain ⟨rfl, rfl, rfl, rfl⟩ := dq11n hr (by omega) (by omega) (by omega)
              obtain ⟨rfl, rfl, rfl, rfl⟩ := dq11n hy (by omega) (by omega) (by omega)
              obtain ⟨rfl, rfl, rfl, rfl⟩ := dq11p11 hw (by omega) (by omega) (by omega) (by omega)
              refine ⟨?_, ?_, ?_, ?_, ?_, ?_⟩ <;> omega
          · rcases Int.le_total 0 (c - e) with k | k
            · obtain ⟨rfl, rfl, rfl, rfl⟩ := dq10p01 hq (by omega) (by omega) (by omega)
              obtain ⟨rfl, rfl, rfl, rfl⟩ := dq10p01 hx (by omega) (by omega) (by omega)
              obtain ⟨rfl, rfl, rfl, rfl⟩ := dq10n hr (by omega) (by omega) (by omega)
              obtain ⟨rfl, rfl, rfl, rfl⟩ := dq10n hy (by omega) (by omega) (by omega)
              obtain ⟨rfl, rfl, rfl, rfl⟩ := dq11p11 hw (by omega) (by omega) (by omega) (by omega)
              refine ⟨?_, ?_, ?_, ?_, ?_, ?_⟩ <;> omega
            · obtain ⟨rfl, rfl, rfl, rfl⟩ := dq10n hq (by omega) (by omega) (by omega)
              obtain ⟨rfl, rfl, rfl, rfl⟩ := dq10n hx (by omega) (by omega) (by omega)
              obtain ⟨rfl, rfl, rfl, rfl⟩ := dq10n hr (by omega) (by omega) (by omega)
              obtain ⟨rfl, rfl, rfl, rfl⟩ := dq10n hy (by omega) (by omega) (by omega)
              obtain ⟨rfl, rfl, rfl, rfl⟩ := dq11p11 hw (by omega) (by omega) (by omega) (by omega)
              refine ⟨?_, ?_, ?_, ?_, ?_, ?_⟩ <;> omega
        · obtain ⟨rfl, rfl, rfl, rfl⟩ := dq11p01 hp (by omega) (by omega) (by omega) (by omega)
          rcases Int.le_total 0 (f) with k | k
          · rcases Int.le_total 0 (c - e + f) with k | k
            · rcases Int.le_total 0 (-c + e) with k | k
              · obtain ⟨rfl, rfl, rfl, rfl⟩ := dq11p11 hq (by omega) (by omega) (by omega) (by omega)
                obtain ⟨rfl, rfl, rfl, rfl⟩ := dq11p11 hx (by omega) (by omega) (by omega) (by omega)
                rcases Int.le_total 0 (a - c - d) with k | k
                · rcases Int.le_total 0 (-a + d + e) with k | k
                  · obtain ⟨rfl, rfl, rfl, rfl⟩ := dq11p11 hr (by omega) (by omega) (by omega) (by omega)
                    obtain ⟨rfl, rfl, rfl, rfl⟩ := dq01p10 hy (by omega) (by omega) (by omega) (by omega) (by omega)
                    obtain ⟨rfl, rfl, rfl, rfl⟩ := dq11p01 hw (by omega) (by omega) (by omega) (by omega)
                    refine ⟨?_, ?_, ?_, ?_, ?_, ?_⟩ <;> omega
                  · obtain ⟨rfl, rfl, rfl, rfl⟩ := dq11p01 hr (by omega) (by omega) (by omega) (by omega)
                    obtain ⟨rfl, rfl, rfl, rfl⟩ := dq01p00 hy (by omega) (by omega) (by omega) (by omega) (by omega)
                    obtain ⟨rfl, rfl, rfl, rfl⟩ := dq11p01 hw (by omega) (by omega) (by omega) (by omega)
                    refine ⟨?_, ?_, ?_, ?_, ?_, ?_⟩ <;> omega
                · obtain ⟨rfl, rfl, rfl, rfl⟩ := dq11n hr (by omega) (by omega) (by omega)
                  obtain ⟨rfl, rfl, rfl, rfl⟩ := dq01n hy (by omega) (by omega) (by omega)
                  obtain ⟨rfl, rfl, rfl, rfl⟩ := dq11p01 hw (by omega) (by omega) (by omega) (by omega)
                  refine ⟨?_, ?_, ?_, ?_, ?_, ?_⟩ <;> omega
              · obtain ⟨rfl, rfl, rfl, rfl⟩ := dq11p01 hq (by omega) (by omega) (by omega) (by omega)
                obtain ⟨rfl, rfl, rfl, rfl⟩ := dq11p01 hx (by omega) (by omega) (by omega) (by omega)
                rcases Int.le_total 0 (a - c - d) with k | k
                · obtain ⟨rfl, rfl, rfl, rfl⟩ := dq10p01 hr (by omega) (by omega) (by omega)
                  obtain ⟨rfl, rfl, rfl, rfl⟩ := dq00p00 hy (by omega) (by omega) (by omega) (by omega)
                  obtain ⟨rfl, rfl, rfl, rfl⟩ := dq11p01 hw (by omega) (by omega) (by omega) (by omega)
                  refine ⟨?_, ?_, ?_, ?_, ?_, ?_⟩ <;> omega
                · obtain ⟨rfl, rfl, rfl, rfl⟩ := dq10n hr (by omega) (by omega) (by omega)
                  obtain ⟨rfl, rfl, rfl, rfl⟩ := dq00n hy (by omega) (by omega) (by omega)
                  obtain ⟨rfl, rfl, rfl, rfl⟩ := dq11p01 hw (by omega) (by omega) (by omega) (by omega)
                  refine ⟨?_, ?_, ?_, ?_, ?_, ?_⟩ <;> omega
            · obtain ⟨rfl, rfl, rfl, rfl⟩ := dq11n hq (by omega) (by omega) (by omega)
              obtain ⟨rfl, rfl, rfl, rfl⟩ := dq11n hx (by omega) (by omega) (by omega)
              rcases Int.le_total 0 (a - d - e + f) with k | k
              · rcases Int.le_total 0 (-a + d + e) with k | k
                · obtain ⟨rfl, rfl, rfl, rfl⟩ := dq11p11 hr (by omega) (by omega) (by omega) (by omega)
                  obtain ⟨rfl, rfl, rfl, rfl⟩ := dq01p10 hy (by omega) (by omega) (by omega) (by omega) (by omega)
                  obtain ⟨rfl, rfl, rfl, rfl⟩ := dq11p01 hw (by omega) (by omega) (by omega) (by omega)
                  refine ⟨?_, ?_, ?_, ?_, ?_, ?_⟩ <;> omega
                · obtain ⟨rfl, rfl, rfl, rfl⟩ := dq11p01 hr (by omega) (by omega) (by omega) (by omega)
                  obtain ⟨rfl, rfl, rfl, rfl⟩ := dq01p00 hy (by omega) (by omega) (by omega) (by omega) (by omega)
                  obtain ⟨rfl, rfl, rfl, rfl⟩ := dq11p01 hw (by omega) (by omega) (by omega) (by omega)
                  refine ⟨?_, ?_, ?_, ?_, ?_, ?_⟩ <;> omega
              · obtain ⟨rfl, rfl, rfl, rfl⟩ := dq11n hr (by omega) (by omega) (by omega)
                obtain ⟨rfl, rfl, rfl, rfl⟩ := dq01n hy (by omega) (by omega) (by omega)
                obtain ⟨rfl, rfl, rfl, rfl⟩ := dq11p01 hw (by omega) (by omega) (by omega) (by omega)
                refine ⟨?_, ?_, ?_, ?_, ?_, ?_⟩ <;> omega
          · rcases Int.le_total 0 (c - e) with k | k
            · obtain ⟨rfl, rfl, rfl, rfl⟩ := dq10p01 hq (by omega) (by omega) (by omega)
              obtain ⟨rfl, rfl, rfl, rfl⟩ := dq10p01 hx (by omega) (by omega) (by omega)
              rcases Int.le_total 0 (a - c - d) with k | k
              · obtain ⟨rfl, rfl, rfl, rfl⟩ := dq10p01 hr (by omega) (by omega) (by omega)
                obtain ⟨rfl, rfl, rfl, rfl⟩ := dq00p00 hy (by omega) (by omega) (by omega) (by omega)
                obtain ⟨rfl, rfl, rfl, rfl⟩ := dq11p01 hw (by omega) (by omega) (by omega) (by omega)
                refine ⟨?_, ?_, ?_, ?_, ?_, ?_⟩ <;> omega
              · obtain ⟨rfl, rfl, rfl, rfl⟩ := dq10n hr (by omega) (by omega) (by omega)
                obtain ⟨rfl, rfl, rfl, rfl⟩ := dq00n hy (by omega) (by omega) (by omega)
                obtain ⟨rfl, rfl, rfl, rfl⟩ := dq11p01 hw (by omega) (by omega) (by omega) (by omega)
                refine ⟨?_, ?_, ?_, ?_, ?_, ?_⟩ <;> omega
            · obtain ⟨rfl, rfl, rfl, rfl⟩ := dq10n hq (by omega) (by omega) (by omega)
              obtain ⟨rfl, rfl, rfl, rfl⟩ := dq10n hx (by omega) (by omega) (by omega)
              rcases Int.le_total 0 (a - d - e) with k | k
              · obtain ⟨rfl, rfl, rfl, rfl⟩ := dq10p01 hr (by omega) (by omega) (by omega)
                obtain ⟨rfl, rfl, rfl, rfl⟩ := dq00p00 hy (by omega) (by omega) (by omega) (by omega)
                obtain ⟨rfl, rfl, rfl, rfl⟩ := dq11p01 hw (by omega) (by omega) (by omega) (by omega)
                refine ⟨?_, ?_, ?_, ?_, ?_, ?_⟩ <;> omega
              · obtain ⟨rfl, rfl, rfl, rfl⟩ := dq10n hr (by omega) (by omega) (by omega)
                obtain ⟨rfl, rfl, rfl, rfl⟩ := dq00n hy (by omega) (by omega) (by omega)
                obtain ⟨rfl, rfl, rfl, rfl⟩ := dq11p01 hw (by omega) (by omega) (by omega) (by omega)
                refine ⟨?_, ?_, ?_, ?_, ?_, ?_⟩ <;> omega
      · obtain ⟨rfl, rfl, rfl, rfl⟩ := dq11n hp (by omega) (by omega) (by omega)
        rcases Int.le_total 0 (f) with k | k
        · rcases Int.le_total 0 (c - e + f) with k | k
          · rcases Int.le_total 0 (-c + e) with k | k
            · obtain ⟨rfl, rfl, rfl, rfl⟩ := dq11p11 hq (by omega) (by omega) (by omega) (by omega)
              rcases Int.le_total 0 (a + d - e + f) with k | k
              · obtain ⟨rfl, rfl, rfl, rfl⟩ := dq11p11 hx (by omega) (by omega) (by omega) (by omega)
                obtain ⟨rfl, rfl, rfl, rfl⟩ := dq11n hr (by omega) (by omega) (by omega)
                obtain ⟨rfl, rfl, rfl, rfl⟩ := dq11p11 hy (by omega) (by omega) (by omega) (by omega)
                obtain ⟨rfl, rfl, rfl, rfl⟩ := dq11p11 hw (by omega) (by omega) (by omega) (by omega)
                refine ⟨?_, ?_, ?_, ?_, ?_, ?_⟩ <;> omega
              · obtain ⟨rfl, rfl, rfl, rfl⟩ := dq11n hx (by omega) (by omega) (by omega)
                obtain ⟨rfl, rfl, rfl, rfl⟩ := dq11n hr (by omega) (by omega) (by omega)
                obtain ⟨rfl, rfl, rfl, rfl⟩ := dq11p11 hy (by omega) (by omega) (by omega) (by omega)
                obtain ⟨rfl, rfl, rfl, rfl⟩ := dq11n hw (by omega) (by omega) (by omega)
                refine ⟨?_, ?_, ?_, ?_, ?_, ?_⟩ <;> omega
            · obtain ⟨rfl, rfl, rfl, rfl⟩ := dq11p01 hq (by omega) (by omega) (by omega) (by omega)
              rcases Int.le_total 0 (a + d - e + f) with k | k
              · rcases Int.le_total 0 (-a - d + e) with k | k
                · obtain ⟨rfl, rfl, rfl, rfl⟩ := dq11p11 hx (by omega) (by omega) (by omega) (by omega)
                  obtain ⟨rfl, rfl, rfl, rfl⟩ := dq10n hr (by omega) (by omega) (by omega)
                  obtain ⟨rfl, rfl, rfl, rfl⟩ := dq11p01 hy (by omega) (by omega) (by omega) (by omega)
                  obtain ⟨rfl, rfl, rfl, rfl⟩ := dq11p11 hw (by omega) (by omega) (by omega) (by omega)
                  refine ⟨?_, ?_, ?_, ?_, ?_, ?_⟩ <;> omega
                · obtain ⟨rfl, rfl, rfl, rfl⟩ := dq11p01 hx (by omega) (by omega) (by omega) (by omega)
                  obtain ⟨rfl, rfl, rfl, rfl⟩ := dq10n hr (by omega) (by omega) (by omega)
                  obtain ⟨rfl, rfl, rfl, rfl⟩ := dq10p01 hy (by omega) (by omega) (by omega)
                  obtain ⟨rfl, rfl, rfl, rfl⟩ := dq11p11 hw (by omega) (by omega) (by omega) (by omega)
                  refine ⟨?_, ?_, ?_, ?_, ?_, ?_⟩ <;> omega
              · obtain ⟨rfl, rfl, rfl, rfl⟩ := dq11n hx (by omega) (by omega) (by omega)
                obtain ⟨rfl, rfl, rfl, rfl⟩ := dq10n hr (by omega) (by omega) (by omega)
                obtain ⟨rfl, rfl, rfl, rfl⟩ := dq11p01 hy (by omega) (by omega) (by omega) (by omega)
                obtain ⟨rfl, rfl, rfl, rfl⟩ := dq11n hw (by omega) (by omega) (by omega)
                refine ⟨?_, ?_, ?_, ?_, ?_, ?_⟩ <;> omega
          · obtain ⟨rfl, rfl, rfl, rfl⟩ := dq11n hq (by omega) (by omega) (by omega)
            obtain ⟨rfl, rfl, rfl, rfl⟩ := dq11n hx (by omega) (by omega) (by omega)
            obtain ⟨rfl, rfl, rfl, rfl⟩ := dq11n hr (by omega) (by omega) (by omega)
            obtain ⟨rfl, rfl, rfl, rfl⟩ := dq11n hy (by omega) (by omega) (by omega)
            obtain ⟨rfl, rfl, rfl, rfl⟩ := dq11n hw (by omega) (by omega) (by omega)
            refine ⟨?_, ?_, ?_, ?_, ?_, ?_⟩ <;> omega
        · rcases Int.le_total 0 (c - e) with k | k
          · obtain ⟨rfl, rfl, rfl, rfl⟩ := dq10p01 hq (by omega) (by omega) (by omega)
            rcases Int.le_total 0 (a + d - e) with k | k
            · obtain ⟨rfl, rfl, rfl, rfl⟩ := dq10p01 hx (by omega) (by omega) (by omega)
              obtain ⟨rfl, rfl, rfl, rfl⟩ := dq10n hr (by omega) (by omega) (by omega)
              obtain ⟨rfl, rfl, rfl, rfl⟩ := dq10p01 hy (by omega) (by omega) (by omega)
              obtain ⟨rfl, rfl, rfl, rfl⟩ := dq11p11 hw (by omega) (by omega) (by omega) (by omega)
              refine ⟨?_, ?_, ?_, ?_, ?_, ?_⟩ <;> omega
            · obtain ⟨rfl, rfl, rfl, rfl⟩ := dq10n hx (by omega) (by omega) (by omega)
              obtain ⟨rfl, rfl, rfl, rfl⟩ := dq10n hr (by omega) (by omega) (by omega)
              obtain ⟨rfl, rfl, rfl, rfl⟩ := dq10p01 hy (by omega) (by omega) (by omega)
              obtain ⟨rfl, rfl, rfl, rfl⟩ := dq11n hw (by omega) (by omega) (by omega)
              refine ⟨?_, ?_, ?_, ?_, ?_, ?_⟩ <;> omega
          · obtain ⟨rfl, rfl, rfl, rfl⟩ := dq10n hq (by omega) (by omega) (by omega)
            obtain ⟨rfl, rfl, rfl, rfl⟩ := dq10n hx (by omega) (by omega) (by omega)
            obtain ⟨rfl, rfl, rfl, rfl⟩ := dq10n hr (by omega) (by omega) (by omega)
            obtain ⟨rfl, rfl, rfl, rfl⟩ := dq10n hy (by omega) (by omega) (by omega)
            obtain ⟨rfl, rfl, rfl, rfl⟩ := dq11n hw (by omega) (by omega) (by omega)
            refine ⟨?_, ?_, ?_, ?_, ?_, ?_⟩ <;> omega
    · rcases Int.le_total 0 (a - c) with k | k
      · obtain ⟨rfl, rfl, rfl, rfl⟩ := dq10p01 hp (by omega) (by omega) (by omega)
        rcases Int.le_total 0 (f) with k | k
        · rcases Int.le_total 0 (c - d - e + f) with k | k
          · rcases Int.le_total 0 (-c + d + e) with k | k
            · rcases Int.le_total 0 (c - e + f) with k | k
              · obtain ⟨rfl, rfl, rfl, rfl⟩ := dq01p11 hq (by omega) (by omega) (by omega) (by omega) (by omega)
                rcases Int.le_total 0 (c + d - e + f) with k | k
                · obtain ⟨rfl, rfl, rfl, rfl⟩ := dq11p11 hx (by omega) (by omega) (by omega) (by omega)
                  rcases Int.le_total 0 (-a + d + e) with k | k
                  · obtain ⟨rfl, rfl, rfl, rfl⟩ := dq11p11 hr (by omega) (by omega) (by omega) (by omega)
                    obtain ⟨rfl, rfl, rfl, rfl⟩ := dq01p11 hy (by omega) (by omega) (by omega) (by omega) (by omega)
                    obtain ⟨rfl, rfl, rfl, rfl⟩ := dq11p11 hw (by omega) (by omega) (by omega) (by omega)
                    refine ⟨?_, ?_, ?_, ?_, ?_, ?_⟩ <;> omega
                  · obtain ⟨rfl, rfl, rfl, rfl⟩ := dq11p01 hr (by omega) (by omega) (by omega) (by omega)
                    obtain ⟨rfl, rfl, rfl, rfl⟩ := dq01p01 hy (by omega) (by omega) (by omega) (by omega) (by omega)
                    obtain ⟨rfl, rfl, rfl, rfl⟩ := dq11p11 hw (by omega) (by omega) (by omega) (by omega)
                    refine ⟨?_, ?_, ?_, ?_, ?_, ?_⟩ <;> omega
                · obtain ⟨rfl, rfl, rfl, rfl⟩ := dq11n hx (by omega) (by omega) (by omega)
                  rcases Int.le_total 0 (-a + d + e) with k | k
                  · obtain ⟨rfl, rfl, rfl, rfl⟩ := dq11p11 hr (by omega) (by omega) (by omega) (by omega)
                    obtain ⟨rfl, rfl, rfl, rfl⟩ := dq01p11 hy (by omega) (by omega) (by omega) (by omega) (by omega)
                    obtain ⟨rfl, rfl, rfl, rfl⟩ := dq11n hw (by omega) (by omega) (by omega)
                    refine ⟨?_, ?_, ?_, ?_, ?_, ?_⟩ <;> omega
                  · obtain ⟨rfl, rfl, rfl, rfl⟩ := dq11p01 hr (by omega) (by omega) (by omega) (by omega)
                    obtain ⟨rfl, rfl, rfl, rfl⟩ := dq01p01 hy (by omega) (by omega) (by omega) (by omega) (by omega)
                    obtain ⟨rfl, rfl, rfl, rfl⟩ := dq11n hw (by omega) (by omega) (by omega)
                    refine ⟨?_, ?_, ?_, ?_, ?_, ?_⟩ <;> omega
              · obtain ⟨rfl, rfl, rfl, rfl⟩ := dq01p10 hq (by omega) (by omega) (by omega) (by omega) (by omega)
                obtain ⟨rfl, rfl, rfl, rfl⟩ := dq11n hx (by omega) (by omega) (by omega)
                rcases Int.le_total 0 (-a + d + e) with k | k
                · obtain ⟨rfl, rfl, rfl, rfl⟩ := dq11p11 hr (by omega) (by omega) (by omega) (by omega)
                  obtain ⟨rfl, rfl, rfl, rfl⟩ := dq01p10 hy (by omega) (by omega) (by omega) (by omega) (by omega)
                  obtain ⟨rfl, rfl, rfl, rfl⟩ := dq10n hw (by omega) (by omega) (by omega)
                  refine ⟨?_, ?_, ?_, ?_, ?_, ?_⟩ <;> omega
                · obtain ⟨rfl, rfl, rfl, rfl⟩ := dq11p01 hr (by omega) (by omega) (by omega) (by omega)
                  obtain ⟨rfl, rfl, rfl, rfl⟩ := dq01p00 hy (by omega) (by omega) (by omega) (by omega) (by omega)
                  obtain ⟨rfl, rfl, rfl, rfl⟩ := dq10n hw (by omega) (by omega) (by omega)
                  refine ⟨?_, ?_, ?_, ?_, ?_, ?_⟩ <;> omega
            · rcases Int.le_total 0 (c - e + f) with k | k
              · obtain ⟨rfl, rfl, rfl, rfl⟩ := dq01p01 hq (by omega) (by omega) (by omega) (by omega) (by omega)
                rcases Int.le_total 0 (c + d - e + f) with k | k
                · rcases Int.le_total 0 (-c - d + e) with k | k
                  · obtain ⟨rfl, rfl, rfl, rfl⟩ := dq11p11 hx (by omega) (by omega) (by omega) (by omega)
                    obtain ⟨rfl, rfl, rfl, rfl⟩ := dq10p01 hr (by omega) (by omega) (by omega)
                    obtain ⟨rfl, rfl, rfl, rfl⟩ := dq01p01 hy (by omega) (by omega) (by omega) (by omega) (by omega)
                    obtain ⟨rfl, rfl, rfl, rfl⟩ := dq11p11 hw (by omega) (by omega) (by omega) (by omega)
                    refine ⟨?_, ?_, ?_, ?_, ?_, ?_⟩ <;> omega
                  · obtain ⟨rfl, rfl, rfl, rfl⟩ := dq11p01 hx (by omega) (by omega) (by omega) (by omega)
                    obtain ⟨rfl, rfl, rfl, rfl⟩ := dq10p01 hr (by omega) (by omega) (by omega)
                    obtain ⟨rfl, rfl, rfl, rfl⟩ := dq00p01 hy (by omega) (by omega) (by omega) (by omega)
                    obtain ⟨rfl, rfl, rfl, rfl⟩ := dq11p11 hw (by omega) (by omega) (by omega) (by omega)
                    refine ⟨?_, ?_, ?_, ?_, ?_, ?_⟩ <;> omega
                · obtain ⟨rfl, rfl, rfl, rfl⟩ := dq11n hx (by omega) (by omega) (by omega)
                  obtain ⟨rfl, rfl, rfl, rfl⟩ := dq10p01 hr (by omega) (by omega) (by omega)
                  obtain ⟨rfl, rfl, rfl, rfl⟩ := dq01p01 hy (by omega) (by omega) (by omega) (by omega) (by omega)
                  obtain ⟨rfl, rfl, rfl, rfl⟩ := dq11n hw (by omega) (by omega) (by omega)
                  refine ⟨?_, ?_, ?_, ?_, ?_, ?_⟩ <;> omega
              · obtain ⟨rfl, rfl, rfl, rfl⟩ := dq01p00 hq (by omega) (by omega) (by omega) (by omega) (by omega)
                obtain ⟨rfl, rfl, rfl, rfl⟩ := dq11n hx (by omega) (by omega) (by omega)
                obtain ⟨rfl, rfl, rfl, rfl⟩ := dq10p01 hr (by omega) (by omega) (by omega)
                obtain ⟨rfl, rfl, rfl, rfl⟩ := dq01p00 hy (by omega) (by omega) (by omega) (by omega) (by omega)
                obtain ⟨rfl, rfl, rfl, rfl⟩ := dq10n hw (by omega) (by omega) (by omega)
                refine ⟨?_, ?_, ?_, ?_, ?_, ?_⟩ <;> omega
          · obtain ⟨rfl, rfl, rfl, rfl⟩ := dq01n hq (by omega) (by omega) (by omega)
            obtain ⟨rfl, rfl, rfl, rfl⟩ := dq11n hx (by omega) (by omega) (by omega)
            rcases Int.le_total 0 (a - d - e + f) with k | k
            · rcases Int.le_total 0 (-a + d + e) with k | k
              · obtain ⟨rfl, rfl, rfl, rfl⟩ := dq11p11 hr (by omega) (by omega) (by omega) (by omega)
                obtain ⟨rfl, rfl, rfl, rfl⟩ := dq01p10 hy (by omega) (by omega) (by omega) (by omega) (by omega)
                obtain ⟨rfl, rfl, rfl, rfl⟩ := dq10p01 hw (by omega) (by omega) (by omega)
                refine ⟨?_, ?_, ?_, ?_, ?_, ?_⟩ <;> omega
              · obtain ⟨rfl, rfl, rfl, rfl⟩ := dq11p01 hr (by omega) (by omega) (by omega) (by omega)
                obtain ⟨rfl, rfl, rfl, rfl⟩ := dq01p00 hy (by omega) (by omega) (by omega) (by omega) (by omega)
                obtain ⟨rfl, rfl, rfl, rfl⟩ := dq10p01 hw (by omega) (by omega) (by omega)
                refine ⟨?_, ?_, ?_, ?_, ?_, ?_⟩ <;> omega
            · obtain ⟨rfl, rfl, rfl, rfl⟩ := dq11n hr (by omega) (by omega) (by omega)
              obtain ⟨rfl, rfl, rfl, rfl⟩ := dq01n hy (by omega) (by omega) (by omega)
              obtain ⟨rfl, rfl, rfl, rfl⟩ := dq10p01 hw (by omega) (by omega) (by omega)
              refine ⟨?_, ?_, ?_, ?_, ?_, ?_⟩ <;> omega
        · rcases Int.le_total 0 (c - d - e) with k | k
          · rcases Int.le_total 0 (c - e) with k | k
            · obtain ⟨rfl, rfl, rfl, rfl⟩ := dq00p01 hq (by omega) (by omega) (by omega) (by omega)
              rcases Int.le_total 0 (c + d - e) with k | k
              · obtain ⟨rfl, rfl, rfl, rfl⟩ := dq10p01 hx (by omega) (by omega) (by omega)
                obtain ⟨rfl, rfl, rfl, rfl⟩ := dq10p01 hr (by omega) (by omega) (by omega)
                obtain ⟨rfl, rfl, rfl, rfl⟩ := dq00p01 hy (by omega) (by omega) (by omega) (by omega)
                obtain ⟨rfl, rfl, rfl, rfl⟩ := dq11p11 hw (by omega) (by omega) (by omega) (by omega)
                refine ⟨?_, ?_, ?_, ?_, ?_, ?_⟩ <;> omega
              · obtain ⟨rfl, rfl, rfl, rfl⟩ := dq10n hx (by omega) (by omega) (by omega)
                obtain ⟨rfl, rfl, rfl, rfl⟩ := dq10p01 hr (by omega) (by omega) (by omega)
                obtain ⟨rfl, rfl, rfl, rfl⟩ := dq00p01 hy (by omega) (by omega) (by omega) (by omega)
                obtain ⟨rfl, rfl, rfl, rfl⟩ := dq11n hw (by omega) (by omega) (by omega)
                refine ⟨?_, ?_, ?_, ?_, ?_, ?_⟩ <;> omega
            · obtain ⟨rfl, rfl, rfl, rfl⟩ := dq00p00 hq (by omega) (by omega) (by omega) (by omega)
              obtain ⟨rfl, rfl, rfl, rfl⟩ := dq10n hx (by omega) (by omega) (by omega)
              obtain ⟨rfl, rfl, rfl, rfl⟩ := dq10p01 hr (by omega) (by omega) (by omega)
              obtain ⟨rfl, rfl, rfl, rfl⟩ := dq00p00 hy (by omega) (by omega) (by omega) (by omega)
              obtain ⟨rfl, rfl, rfl, rfl⟩ := dq10n hw (by omega) (by omega) (by omega)
              refine ⟨?_, ?_, ?_, ?_, ?_, ?_⟩ <;> omega
          · obtain ⟨rfl, rfl, rfl, rfl⟩ := dq00n hq (by omega) (by omega) (by omega)
            obtain ⟨rfl, rfl, rfl, rfl⟩ := dq10n hx (by omega) (by omega) (by omega)
            rcases Int.le_total 0 (a - d - e) with k | k
            · obtain ⟨rfl, rfl, rfl, rfl⟩ := dq10p01 hr (by omega) (by omega) (by omega)
              obtain ⟨rfl, rfl, rfl, rfl⟩ := dq00p00 hy (by omega) (by omega) (by omega) (by omega)
              obtain ⟨rfl, rfl, rfl, rfl⟩ := dq10p01 hw (by omega) (by omega) (by omega)
              refine ⟨?_, ?_, ?_, ?_, ?_, ?_⟩ <;> omega
            · obtain ⟨rfl, rfl, rfl, rfl⟩ := dq10n hr (by omega) (by omega) (by omega)
              obtain ⟨rfl, rfl, rfl, rfl⟩ := dq00n hy (by omega) (by omega) (by omega)
              obtain ⟨rfl, rfl, rfl, rfl⟩ := dq10p01 hw (by omega) (by omega) (by omega)
              refine ⟨?_, ?_, ?_, ?_, ?_, ?_⟩ <;> omega
      · obtain ⟨rfl, rfl, rfl, rfl⟩ := dq10n hp (by omega) (by omega) (by omega)
        rcases Int.le_total 0 (f) with k | k
        · rcases Int.le_total 0 (c - d - e + f) with k | k
          · rcases Int.le_total 0 (-c + d + e) with k | k
            · rcases Int.le_total 0 (c - e + f) with k | k
              · obtain ⟨rfl, rfl, rfl, rfl⟩ := dq01p11 hq (by omega) (by omega) (by omega) (by omega) (by omega)
                rcases Int.le_total 0 (a + d - e + f) with k | k
                · obtain ⟨rfl, rfl, rfl, rfl⟩ := dq11p11 hx (by omega) (by omega) (by omega) (by omega)
                  obtain ⟨rfl, rfl, rfl, rfl⟩ := dq11n hr (by omega) (by omega) (by omega)
                  obtain ⟨rfl, rfl, rfl, rfl⟩ := dq01p11 hy (by omega) (by omega) (by omega) (by omega) (by omega)
                  obtain ⟨rfl, rfl, rfl, rfl⟩ := dq11p11 hw (by omega) (by omega) (by omega) (by omega)
                  refine ⟨?_, ?_, ?_, ?_, ?_, ?_⟩ <;> omega
                · obtain ⟨rfl, rfl, rfl, rfl⟩ := dq11n hx (by omega) (by omega) (by omega)
                  obtain ⟨rfl, rfl, rfl, rfl⟩ := dq11n hr (by omega) (by omega) (by omega)
                  obtain ⟨rfl, rfl, rfl, rfl⟩ := dq01p11 hy (by omega) (by omega) (by omega) (by omega) (by omega)
                  obtain ⟨rfl, rfl, rfl, rfl⟩ := dq11n hw (by omega) (by omega) (by omega)
                  refine ⟨?_, ?_, ?_, ?_, ?_, ?_⟩ <;> omega
              · obtain ⟨rfl, rfl, rfl, rfl⟩ := dq01p10 hq (by omega) (by omega) (by omega) (by omega) (by omega)
                obtain ⟨rfl, rfl, rfl, rfl⟩ := dq11n hx (by omega) (by omega) (by omega)
                obtain ⟨rfl, rfl, rfl, rfl⟩ := dq11n hr (by omega) (by omega) (by omega)
                obtain ⟨rfl, rfl, rfl, rfl⟩ := dq01p10 hy (by omega) (by omega) (by omega) (by omega) (by omega)
                obtain ⟨rfl, rfl, rfl, rfl⟩ := dq10n hw (by omega) (by omega) (by omega)
                refine ⟨?_, ?_, ?_, ?_, ?_, ?_⟩ <;> omega
            · rcases Int.le_total 0 (c - e + f) with k | k
              · obtain ⟨rfl, rfl, rfl, rfl⟩ := dq01p01 hq (by omega) (by omega) (by omega) (by omega) (by omega)
                rcases Int.le_total 0 (a + d - e + f) with k | k
                · rcases Int.le_total 0 (-a - d + e) with k | k
                  · obtain ⟨rfl, rfl, rfl, rfl⟩ := dq11p11 hx (by omega) (by omega) (by omega) (by omega)
                    obtain ⟨rfl, rfl, rfl, rfl⟩ := dq10n hr (by omega) (by omega) (by omega)
                    obtain ⟨rfl, rfl, rfl, rfl⟩ := dq01p01 hy (by omega) (by omega) (by omega) (by omega) (by omega)
                    obtain ⟨rfl, rfl, rfl, rfl⟩ := dq11p11 hw (by omega) (by omega) (by omega) (by omega)
                    refine ⟨?_, ?_, ?_, ?_, ?_, ?_⟩ <;> omega
                  · obtain ⟨rfl, rfl, rfl, rfl⟩ := dq11p01 hx (by omega) (by omega) (by omega) (by omega)
                    obtain ⟨rfl, rfl, rfl, rfl⟩ := dq10n hr (by omega) (by omega) (by omega)
                    obtain ⟨rfl, rfl, rfl, rfl⟩ := dq00p01 hy (by omega) (by omega) (by omega) (by omega)
                    obtain ⟨rfl, rfl, rfl, rfl⟩ := dq11p11 hw (by omega) (by omega) (by omega) (by omega)
                    refine ⟨?_, ?_, ?_, ?_, ?_, ?_⟩ <;> omega
                · obtain ⟨rfl, rfl, rfl, rfl⟩ := dq11n hx (by omega) (by omega) (by omega)
                  obtain ⟨rfl, rfl, rfl, rfl⟩ := dq10n hr (by omega) (by omega) (by omega)
                  obtain ⟨rfl, rfl, rfl, rfl⟩ := dq01p01 hy (by omega) (by omega) (by omega) (by omega) (by omega)
                  obtain ⟨rfl, rfl, rfl, rfl⟩ := dq11n hw (by omega) (by omega) (by omega)
                  refine ⟨?_, ?_, ?_, ?_, ?_, ?_⟩ <;> omega
              · obtain ⟨rfl, rfl, rfl, rfl⟩ := dq01p00 hq (by omega) (by omega) (by omega) (by omega) (by omega)
                obtain ⟨rfl, rfl, rfl, rfl⟩ := dq11n hx (by omega) (by omega) (by omega)
                obtain ⟨rfl, rfl, rfl, rfl⟩ := dq10n hr (by omega) (by omega) (by omega)
                obtain ⟨rfl, rfl, rfl, rfl⟩ := dq01p00 hy (by omega) (by omega) (by omega) (by omega) (by omega)
                obtain ⟨rfl, rfl, rfl, rfl⟩ := dq10n hw (by omega) (by omega) (by omega)
                refine ⟨?_, ?_, ?_, ?_, ?_, ?_⟩ <;> omega
          · obtain ⟨rfl, rfl, rfl, rfl⟩ := dq01n hq (by omega) (by omega) (by omega)
            obtain ⟨rfl, rfl, rfl, rfl⟩ := dq11n hx (by omega) (by omega) (by omega)
            obtain ⟨rfl, rfl, rfl, rfl⟩ := dq11n hr (by omega) (by omega) (by omega)
            obtain ⟨rfl, rfl, rfl, rfl⟩ := dq01n hy (by omega) (by omega) (by omega)
            obtain ⟨rfl, rfl, rfl, rfl⟩ := dq10n hw (by omega) (by omega) (by omega)
            refine ⟨?_, ?_, ?_, ?_, ?_, ?_⟩ <;> omega
        · rcases Int.le_total 0 (c - d - e) with k | k
          · rcases Int.le_total 0 (c - e) with k | k
            · obtain ⟨rfl, rfl, rfl, rfl⟩ := dq00p01 hq (by omega) (by omega) (by omega) (by omega)
              rcases Int.le_total 0 (a + d - e) with k | k
              · obtain ⟨rfl, rfl, rfl, rfl⟩ := dq10p01 hx (by omega) (by omega) (by omega)
                obtain ⟨rfl, rfl, rfl, rfl⟩ := dq10n hr (by omega) (by omega) (by omega)
                obtain ⟨rfl, rfl, rfl, rfl⟩ := dq00p01 hy (by omega) (by omega) (by omega) (by omega)
                obtain ⟨rfl, rfl, rfl, rfl⟩ := dq11p11 hw (by omega) (by omega) (by omega) (by omega)
                refine ⟨?_, ?_, ?_, ?_, ?_, ?_⟩ <;> omega
              · obtain ⟨rfl, rfl, rfl, rfl⟩ := dq10n hx (by omega) (by omega) (by omega)
                obtain ⟨rfl, rfl, rfl, rfl⟩ := dq10n hr (by omega) (by omega) (by omega)
                obtain ⟨rfl, rfl, rfl, rfl⟩ := dq00p01 hy (by omega) (by omega) (by omega) (by omega)
                obtain ⟨rfl, rfl, rfl, rfl⟩ := dq11n hw (by omega) (by omega) (by omega)
                refine ⟨?_, ?_, ?_, ?_, ?_, ?_⟩ <;> omega
            · obtain ⟨rfl, rfl, rfl, rfl⟩ := dq00p00 hq (by omega) (by omega) (by omega) (by omega)
              obtain ⟨rfl, rfl, rfl, rfl⟩ := dq10n hx (by omega) (by omega) (by omega)
              obtain ⟨rfl, rfl, rfl, rfl⟩ := dq10n hr (by omega) (by omega) (by omega)
              obtain ⟨rfl, rfl, rfl, rfl⟩ := dq00p00 hy (by omega) (by omega) (by omega) (by omega)
              obtain ⟨rfl, rfl, rfl, rfl⟩ := dq10n hw (by omega) (by omega) (by omega)
              refine ⟨?_, ?_, ?_, ?_, ?_, ?_⟩ <;> omega
          · obtain ⟨rfl, rfl, rfl, rfl⟩ := dq00n hq (by omega) (by omega) (by omega)
            obtain ⟨rfl, rfl, rfl, rfl⟩ := dq10n hx (by omega) (by omega) (by omega)
            obtain ⟨rfl, rfl, rfl, rfl⟩ := dq10n hr (by omega) (by omega) (by omega)
            obtain ⟨rfl, rfl, rfl, rfl⟩ := dq00n hy (by omega) (by omega) (by omega)
            obtain ⟨rfl, rfl, rfl, rfl⟩ := dq10n hw (by omega) (by omega) (by omega)
            refine ⟨?_, ?_, ?_, ?_, ?_, ?_⟩ <;> omega
  · rcases Int.le_total 0 (d) with k | k
    · rcases Int.le_total 0 (a - b - c + d) with k | k
      · rcases Int.le_total 0 (-a + b + c) with k | k
        · rcases Int.le_total 0 (a - c + d) with k | k
          · obtain ⟨rfl, rfl, rfl, rfl⟩ := dq01p11 hp (by omega) (by omega) (by omega) (by omega) (by omega)
            rcases Int.le_total 0 (f) with k | k
            · rcases Int.le_total 0 (c - e + f) with k | k
              · rcases Int.le_total 0 (-c + e) with k | k
                · obtain ⟨rfl, rfl, rfl, rfl⟩ := dq11p11 hq (by omega) (by omega) (by omega) (by omega)
                  obtain ⟨rfl, rfl, rfl, rfl⟩ := dq11p11 hx (by omega) (by omega) (by omega) (by omega)
                  obtain ⟨rfl, rfl, rfl, rfl⟩ := dq01n hr (by omega) (by omega) (by omega)
                  obtain ⟨rfl, rfl, rfl, rfl⟩ := dq11n hy (by omega) (by omega) (by omega)
                  obtain ⟨rfl, rfl, rfl, rfl⟩ := dq01p11 hw (by omega) (by omega) (by omega) (by omega) (by omega)
                  refine ⟨?_, ?_, ?_, ?_, ?_, ?_⟩ <;> omega
                · obtain ⟨rfl, rfl, rfl, rfl⟩ := dq11p01 hq (by omega) (by omega) (by omega) (by omega)
                  obtain ⟨rfl, rfl, rfl, rfl⟩ := dq11p01 hx (by omega) (by omega) (by omega) (by omega)
                  obtain ⟨rfl, rfl, rfl, rfl⟩ := dq00n hr (by omega) (by omega) (by omega)
                  obtain ⟨rfl, rfl, rfl, rfl⟩ := dq10n hy (by omega) (by omega) (by omega)
                  obtain ⟨rfl, rfl, rfl, rfl⟩ := dq01p11 hw (by omega) (by omega) (by omega) (by omega) (by omega)
                  refine ⟨?_, ?_, ?_, ?_, ?_, ?_⟩ <;> omega
              · obtain ⟨rfl, rfl, rfl, rfl⟩ := dq11n hq (by omega) (by omega) (by omega)
                obtain ⟨rfl, rfl, rfl, rfl⟩ := dq11n hx (by omega) (by omega) (by omega)
                obtain ⟨rfl, rfl, rfl, rfl⟩ := dq01n hr (by omega) (by omega) (by omega)
                obtain ⟨rfl, rfl, rfl, rfl⟩ := dq11n hy (by omega) (by omega) (by omega)
                obtain ⟨rfl, rfl, rfl, rfl⟩ := dq01p11 hw (by omega) (by omega) (by omega) (by omega) (by omega)
                refine ⟨?_, ?_, ?_, ?_, ?_, ?_⟩ <;> omega
            · rcases Int.le_total 0 (c - e) with k | k
              · obtain ⟨rfl, rfl, rfl, rfl⟩ := dq10p01 hq (by omega) (by omega) (by omega)
                obtain ⟨rfl, rfl, rfl, rfl⟩ := dq10p01 hx (by omega) (by omega) (by omega)
                obtain ⟨rfl, rfl, rfl, rfl⟩ := dq00n hr (by omega) (by omega) (by omega)
                obtain ⟨rfl, rfl, rfl, rfl⟩ := dq10n hy (by omega) (by omega) (by omega)
                obtain ⟨rfl, rfl, rfl, rfl⟩ := dq01p11 hw (by omega) (by omega) (by omega) (by omega) (by omega)
                refine ⟨?_, ?_, ?_, ?_, ?_, ?_⟩ <;> omega
              · obtain ⟨rfl, rfl, rfl, rfl⟩ := dq10n hq (by omega) (by omega) (by omega)
                obtain ⟨rfl, rfl, rfl, rfl⟩ := dq10n hx (by omega) (by omega) (by omega)
                obtain ⟨rfl, rfl, rfl, rfl⟩ := dq00n hr (by omega) (by omega) (by omega)
                obtain ⟨rfl, rfl, rfl, rfl⟩ := dq10n hy (by omega) (by omega) (by omega)
                obtain ⟨rfl, rfl, rfl, rfl⟩ := dq01p11 hw (by omega) (by omega) (by omega) (by omega) (by omega)
                refine ⟨?_, ?_, ?_, ?_, ?_, ?_⟩ <;> omega
          · obtain ⟨rfl, rfl, rfl, rfl⟩ := dq01p10 hp (by omega) (by omega) (by omega) (by omega) (by omega)
            rcases Int.le_total 0 (f) with k | k
            · rcases Int.le_total 0 (c - e + f) with k | k
              · rcases Int.le_total 0 (-c + e) with k | k
                · obtain ⟨rfl, rfl, rfl, rfl⟩ := dq11p11 hq (by omega) (by omega) (by omega) (by omega)
                  rcases Int.le_total 0 (a + d - e + f) with k | k
                  · obtain ⟨rfl, rfl, rfl, rfl⟩ := dq01p11 hx (by omega) (by omega) (by omega) (by omega) (by omega)
                    obtain ⟨rfl, rfl, rfl, rfl⟩ := dq01n hr (by omega) (by omega) (by omega)
                    obtain ⟨rfl, rfl, rfl, rfl⟩ := dq11n hy (by omega) (by omega) (by omega)
                    obtain ⟨rfl, rfl, rfl, rfl⟩ := dq01p11 hw (by omega) (by omega) (by omega) (by omega) (by omega)
                    refine ⟨?_, ?_, ?_, ?_, ?_, ?_⟩ <;> omega
                  · obtain ⟨rfl, rfl, rfl, rfl⟩ := dq01p10 hx (by omega) (by omega) (by omega) (by omega) (by omega)
                    obtain ⟨rfl, rfl, rfl, rfl⟩ := dq01n hr (by omega) (by omega) (by omega)
                    obtain ⟨rfl, rfl, rfl, rfl⟩ := dq11n hy (by omega) (by omega) (by omega)
                    obtain ⟨rfl, rfl, rfl, rfl⟩ := dq01p10 hw (by omega) (by omega) (by omega) (by omega) (by omega)
                    refine ⟨?_, ?_, ?_, ?_, ?_, ?_⟩ <;> omega
                · obtain ⟨rfl, rfl, rfl, rfl⟩ := dq11p01 hq (by omega) (by omega) (by omega) (by omega)
                  rcases Int.le_total 0 (a + d - e + f) with k | k
                  · obtain ⟨rfl, rfl, rfl, rfl⟩ := dq01p01 hx (by omega) (by omega) (by omega) (by omega) (by omega)
                    obtain ⟨rfl, rfl, rfl, rfl⟩ := dq00n hr (by omega) (by omega) (by omega)
                    obtain ⟨rfl, rfl, rfl, rfl⟩ := dq10n hy (by omega) (by omega) (by omega)
                    obtain ⟨rfl, rfl, rfl, rfl⟩ := dq01p11 hw (by omega) (by omega) (by omega) (by omega) (by omega)
                    refine ⟨?_, ?_, ?_, ?_, ?_, ?_⟩ <;> omega
                  · obtain ⟨rfl, rfl, rfl, rfl⟩ := dq01p00 hx (by omega) (by omega) (by omega) (by omega) (by omega)
                    obtain ⟨rfl, rfl, rfl, rfl⟩ := dq00n hr (by omega) (by omega) (by omega)
                    obtain ⟨rfl, rfl, rfl, rfl⟩ := dq10n hy (by omega) (by omega) (by omega)
                    obtain ⟨rfl, rfl, rfl, rfl⟩ := dq01p10 hw (by omega) (by omega) (by omega) (by omega) (by omega)
                    refine ⟨?_, ?_, ?_, ?_, ?_, ?_⟩ <;> omega
              · obtain ⟨rfl, rfl, rfl, rfl⟩ := dq11n hq (by omega) (by omega) (by omega)
                obtain ⟨rfl, rfl, rfl, rfl⟩ := dq01n hx (by omega) (by omega) (by omega)
                obtain ⟨rfl, rfl, rfl, rfl⟩ := dq01n hr (by omega) (by omega) (by omega)
                obtain ⟨rfl, rfl, rfl, rfl⟩ := dq11n hy (by omega) (by omega) (by omega)
                obtain ⟨rfl, rfl, rfl, rfl⟩ := dq01p10 hw (by omega) (by omega) (by omega) (by omega) (by omega)
                refine ⟨?_, ?_, ?_, ?_, ?_, ?_⟩ <;> omega
            · rcases Int.le_total 0 (c - e) with k | k
              · obtain ⟨rfl, rfl, rfl, rfl⟩ := dq10p01 hq (by omega) (by omega) (by omega)
                rcases Int.le_total 0 (a + d - e) with k | k
                · obtain ⟨rfl, rfl, rfl, rfl⟩ := dq00p01 hx (by omega) (by omega) (by omega) (by omega)
                  obtain ⟨rfl, rfl, rfl, rfl⟩ := dq00n hr (by omega) (by omega) (by omega)
                  obtain ⟨rfl, rfl, rfl, rfl⟩ := dq10n hy (by omega) (by omega) (by omega)
                  obtain ⟨rfl, rfl, rfl, rfl⟩ := dq01p11 hw (by omega) (by omega) (by omega) (by omega) (by omega)
                  refine ⟨?_, ?_, ?_, ?_, ?_, ?_⟩ <;> omega
                · obtain ⟨rfl, rfl, rfl, rfl⟩ := dq00p00 hx (by omega) (by omega) (by omega) (by omega)
                  obtain ⟨rfl, rfl, rfl, rfl⟩ := dq00n hr (by omega) (by omega) (by omega)
                  obtain ⟨rfl, rfl, rfl, rfl⟩ := dq10n hy (by omega) (by omega) (by omega)
                  obtain ⟨rfl, rfl, rfl, rfl⟩ := dq01p10 hw (by omega) (by omega) (by omega) (by omega) (by omega)
                  refine ⟨?_, ?_, ?_, ?_, ?_, ?_⟩ <;> omega
              · obtain ⟨rfl, rfl, rfl, rfl⟩ := dq10n hq (by omega) (by omega) (by omega)
                obtain ⟨rfl, rfl, rfl, rfl⟩ := dq00n hx (by omega) (by omega) (by omega)
                obtain ⟨rfl, rfl, rfl, rfl⟩ := dq00n hr (by omega) (by omega) (by omega)
                obtain ⟨rfl, rfl, rfl, rfl⟩ := dq10n hy (by omega) (by omega) (by omega)
                obtain ⟨rfl, rfl, rfl, rfl⟩ := dq01p10 hw (by omega) (by omega) (by omega) (by omega) (by omega)
                refine ⟨?_, ?_, ?_, ?_, ?_, ?_⟩ <;> omega
        · rcases Int.le_total 0 (a - c + d) with k | k
          · obtain ⟨rfl, rfl, rfl, rfl⟩ := dq01p01 hp (by omega) (by omega) (by omega) (by omega) (by omega)
            rcases Int.le_total 0 (f) with k | k
            · rcases Int.le_total 0 (c - e + f) with k | k
              · rcases Int.le_total 0 (-c + e) with k | k
                · obtain ⟨rfl, rfl, rfl, rfl⟩ := dq11p11 hq (by omega) (by omega) (by omega) (by omega)
                  obtain ⟨rfl, rfl, rfl, rfl⟩ := dq11p11 hx (by omega) (by omega) (by omega) (by omega)
                  rcases Int.le_total 0 (a - b - c - d) with k | k
                  · rcases Int.le_total 0 (-a + b + d + e) with k | k
                    · rcases Int.le_total 0 (a - c - d) with k | k
                      · obtain ⟨rfl, rfl, rfl, rfl⟩ := dq01p11 hr (by omega) (by omega) (by omega) (by omega) (by omega)
                        obtain ⟨rfl, rfl, rfl, rfl⟩ := dq01p10 hy (by omega) (by omega) (by omega) (by omega) (by omega)
                        obtain ⟨rfl, rfl, rfl, rfl⟩ := dq11p01 hw (by omega) (by omega) (by omega) (by omega)
                        refine ⟨?_, ?_, ?_, ?_, ?_, ?_⟩ <;> omega
                      · obtain ⟨rfl, rfl, rfl, rfl⟩ := dq01p10 hr (by omega) (by omega) (by omega) (by omega) (by omega)
                        obtain ⟨rfl, rfl, rfl, rfl⟩ := dq01p10 hy (by omega) (by omega) (by omega) (by omega) (by omega)
                        obtain ⟨rfl, rfl, rfl, rfl⟩ := dq01p01 hw (by omega) (by omega) (by omega) (by omega) (by omega)
                        refine ⟨?_, ?_, ?_, ?_, ?_, ?_⟩ <;> omega
                    · rcases Int.le_total 0 (a - c - d) with k | k
                      · obtain ⟨rfl, rfl, rfl, rfl⟩ := dq01p01 hr (by omega) (by omega) (by omega) (by omega) (by omega)
                        obtain ⟨rfl, rfl, rfl, rfl⟩ := dq01p00 hy (by omega) (by omega) (by omega) (by omega) (by omega)
                        obtain ⟨rfl, rfl, rfl, rfl⟩ := dq11p01 hw (by omega) (by omega) (by omega) (by omega)
                        refine ⟨?_, ?_, ?_, ?_, ?_, ?_⟩ <;> omega
                      · obtain ⟨rfl, rfl, rfl, rfl⟩ := dq01p00 hr (by omega) (by omega) (by omega) (by omega) (by omega)
                        obtain ⟨rfl, rfl, rfl, rfl⟩ := dq01p00 hy (by omega) (by omega) (by omega) (by omega) (by omega)
                        obtain ⟨rfl, rfl, rfl, rfl⟩ := dq01p01 hw (by omega) (by omega) (by omega) (by omega) (by omega)
                        refine ⟨?_, ?_, ?_, ?_, ?_, ?_⟩ <;> omega
                  · obtain ⟨rfl, rfl, rfl, rfl⟩ := dq01n hr (by omega) (by omega) (by omega)
                    obtain ⟨rfl, rfl, rfl, rfl⟩ := dq01n hy (by omega) (by omega) (by omega)
                    obtain ⟨rfl, rfl, rfl, rfl⟩ := dq01p01 hw (by omega) (by omega) (by omega) (by omega) (by omega)
                    refine ⟨?_, ?_, ?_, ?_, ?_, ?_⟩ <;> omega
                · obtain ⟨rfl, rfl, rfl, rfl⟩ := dq11p01 hq (by omega) (by omega) (by omega) (by omega)
                  obtain ⟨rfl, rfl, rfl, rfl⟩ := dq11p01 hx (by omega) (by omega) (by omega) (by omega)
                  rcases Int.le_total 0 (a - b - c - d) with k | k
                  · rcases Int.le_total 0 (a - c - d) with k | k
                    · obtain ⟨rfl, rfl, rfl, rfl⟩ := dq00p01 hr (by omega) (by omega) (by omega) (by omega)
                      obtain ⟨rfl, rfl, rfl, rfl⟩ := dq00p00 hy (by omega) (by omega) (by omega) (by omega)
                      obtain ⟨rfl, rfl, rfl, rfl⟩ := dq11p01 hw (by omega) (by omega) (by omega) (by omega)
                      refine ⟨?_, ?_, ?_, ?_, ?_, ?_⟩ <;> omega
                    · obtain ⟨rfl, rfl, rfl, rfl⟩ := dq00p00 hr (by omega) (by omega) (by omega) (by omega)
                      obtain ⟨rfl, rfl, rfl, rfl⟩ := dq00p00 hy (by omega) (by omega) (by omega) (by omega)
                      obtain ⟨rfl, rfl, rfl, rfl⟩ := dq01p01 hw (by omega) (by omega) (by omega) (by omega) (by omega)
                      refine ⟨?_, ?_, ?_, ?_, ?_, ?_⟩ <;> omega
                  · obtain ⟨rfl, rfl, rfl, rfl⟩ := dq00n hr (by omega) (by omega) (by omega)
                    obtain ⟨rfl, rfl, rfl, rfl⟩ := dq00n hy (by omega) (by omega) (by omega)
                    obtain ⟨rfl, rfl, rfl, rfl⟩ := dq01p01 hw (by omega) (by omega) (by omega) (by omega) (by omega)
                    refine ⟨?_, ?_, ?_, ?_, ?_, ?_⟩ <;> omega
              · obtain ⟨rfl, rfl, rfl, rfl⟩ := dq11n hq (by omega) (by omega) (by omega)
                obtain ⟨rfl, rfl, rfl, rfl⟩ := dq11n hx (by omega) (by omega) (by omega)
                rcases Int.le_total 0 (a - b - d - e + f) with k | k
                · rcases Int.le_total 0 (-a + b + d + e) with k | k
                  · rcases Int.le_total 0 (a - d - e + f) with k | k
                    · obtain ⟨rfl, rfl, rfl, rfl⟩ := dq01p11 hr (by omega) (by omega) (by omega) (by omega) (by omega)
                      obtain ⟨rfl, rfl, rfl, rfl⟩ := dq01p10 hy (by omega) (by omega) (by omega) (by omega) (by omega)
                      obtain ⟨rfl, rfl, rfl, rfl⟩ := dq11p01 hw (by omega) (by omega) (by omega) (by omega)
                      refine ⟨?_, ?_, ?_, ?_, ?_, ?_⟩ <;> omega
                    · obtain ⟨rfl, rfl, rfl, rfl⟩ := dq01p10 hr (by omega) (by omega) (by omega) (by omega) (by omega)
                      obtain ⟨rfl, rfl, rfl, rfl⟩ := dq01p10 hy (by omega) (by omega) (by omega) (by omega) (by omega)
                      obtain ⟨rfl, rfl, rfl, rfl⟩ := dq01p01 hw (by omega) (by omega) (by omega) (by omega) (by omega)
                      refine ⟨?_, ?_, ?_, ?_, ?_, ?_⟩ <;> omega
                  · rcases Int.le_total 0 (a - d - e + f) with k | k
                    · obtain ⟨rfl, rfl, rfl, rfl⟩ := dq01p01 hr (by omega) (by omega) (by omega) (by omega) (by omega)
                      obtain ⟨rfl, rfl, rfl, rfl⟩ := dq01p00 hy (by omega) (by omega) (by omega) (by omega) (by omega)
                      obtain ⟨rfl, rfl, rfl, rfl⟩ := dq11p01 hw (by omega) (by omega) (by omega) (by omega)
                      refine ⟨?_, ?_, ?_, ?_, ?_, ?_⟩ <;> omega
                    · obtain ⟨rfl, rfl, rfl, rfl⟩ := dq01p00 hr (by omega) (by omega) (by omega) (by omega) (by omega)
                      obtain ⟨rfl, rfl, rfl, rfl⟩ := dq01p00 hy (by omega) (by omega) (by omega) (by omega) (by omega)
                      obtain ⟨rfl, rfl, rfl, rfl⟩ := dq01p01 hw (by omega) (by omega) (by omega) (by omega) (by omega)
                      refine ⟨?_, ?_, ?_, ?_, ?_, ?_⟩ <;> omega
                · obtain ⟨rfl, rfl, rfl, rfl⟩ := dq01n hr (by omega) (by omega) (by omega)
                  obtain ⟨rfl, rfl, rfl, rfl⟩ := dq01n hy (by omega) (by omega) (by omega)
                  obtain ⟨rfl, rfl, rfl, rfl⟩ := dq01p01 hw (by omega) (by omega) (by omega) (by omega) (by omega)
                  refine ⟨?_, ?_, ?_, ?_, ?_, ?_⟩ <;> omega
            · rcases Int.le_total 0 (c - e) with k | k
              · obtain ⟨rfl, rfl, rfl, rfl⟩ := dq10p01 hq (by omega) (by omega) (by omega)
                obtain ⟨rfl, rfl, rfl, rfl⟩ := dq10p01 hx (by omega) (by omega) (by omega)
                rcases Int.le_total 0 (a - b - c - d) with k | k
                · rcases Int.le_total 0 (a - c - d) with k | k
                  · obtain ⟨rfl, rfl, rfl, rfl⟩ := dq00p01 hr (by omega) (by omega) (by omega) (by omega)
                    obtain ⟨rfl, rfl, rfl, rfl⟩ := dq00p00 hy (by omega) (by omega) (by omega) (by omega)
                    obtain ⟨rfl, rfl, rfl, rfl⟩ := dq11p01 hw (by omega) (by omega) (by omega) (by omega)
                    refine ⟨?_, ?_, ?_, ?_, ?_, ?_⟩ <;> omega
                  · obtain ⟨rfl, rfl, rfl, rfl⟩ := dq00p00 hr (by omega) (by omega) (by omega) (by omega)
                    obtain ⟨rfl, rfl, rfl, rfl⟩ := dq00p00 hy (by omega) (by omega) (by omega) (by omega)
                    obtain ⟨rfl, rfl, rfl, rfl⟩ := dq01p01 hw (by omega) (by omega) (by omega) (by omega) (by omega)
                    refine ⟨?_, ?_, ?_, ?_, ?_, ?_⟩ <;> omega
                · obtain ⟨rfl, rfl, rfl, rfl⟩ := dq00n hr (by omega) (by omega) (by omega)
                  obtain ⟨rfl, rfl, rfl, rfl⟩ := dq00n hy (by omega) (by omega) (by omega)
                  obtain ⟨rfl, rfl, rfl, rfl⟩ := dq01p01 hw (by omega) (by omega) (by omega) (by omega) (by omega)
                  refine ⟨?_, ?_, ?_, ?_, ?_, ?_⟩ <;> omega
              · obtain ⟨rfl, rfl, rfl, rfl⟩ := dq10n hq (by omega) (by omega) (by omega)
                obtain ⟨rfl, rfl, rfl, rfl⟩ := dq10n hx (by omega) (by omega) (by omega)
                rcases Int.le_total 0 (a - b - d - e) with k | k
                · rcases Int.le_total 0 (a - d - e) with k | k
                  · obtain ⟨rfl, rfl, rfl, rfl⟩ := dq00p01 hr (by omega) (by omega) (by omega) (by omega)
                    obtain ⟨rfl, rfl, rfl, rfl⟩ := dq00p00 hy (by omega) (by omega) (by omega) (by omega)
                    obtain ⟨rfl, rfl, rfl, rfl⟩ := dq11p01 hw (by omega) (by omega) (by omega) (by omega)
                    refine ⟨?_, ?_, ?_, ?_, ?_, ?_⟩ <;> omega
                  · obtain ⟨rfl, rfl, rfl, rfl⟩ := dq00p00 hr (by omega) (by omega) (by omega) (by omega)
                    obtain ⟨rfl, rfl, rfl, rfl⟩ := dq00p00 hy (by omega) (by omega) (by omega) (by omega)
                    obtain ⟨rfl, rfl, rfl, rfl⟩ := dq01p01 hw (by omega) (by omega) (by omega) (by omega) (by omega)
                    refine ⟨?_, ?_, ?_, ?_, ?_, ?_⟩ <;> omega
                · obtain ⟨rfl, rfl, rfl, rfl⟩ := dq00n hr (by omega) (by omega) (by omega)
                  obtain ⟨rfl, rfl, rfl, rfl⟩ := dq00n hy (by omega) (by omega) (by omega)
                  obtain ⟨rfl, rfl, rfl, rfl⟩ := dq01p01 hw (by omega) (by omega) (by omega) (by omega) (by omega)
                  refine ⟨?_, ?_, ?_, ?_, ?_, ?_⟩ <;> omega
          · obtain ⟨rfl, rfl, rfl, rfl⟩ := dq01p00 hp (by omega) (by omega) (by omega) (by omega) (by omega)
            rcases Int.le_total 0 (f) with k | k
            · rcases Int.le_total 0 (c - e + f) with k | k
              · rcases Int.le_total 0 (-c + e) with k | k
                · obtain ⟨rfl, rfl, rfl, rfl⟩ := dq11p11 hq (by omega) (by omega) (by omega) (by omega)
                  rcases Int.le_total 0 (a + d - e + f) with k | k
                  · obtain ⟨rfl, rfl, rfl, rfl⟩ := dq01p11 hx (by omega) (by omega) (by omega) (by omega) (by omega)
                    rcases Int.le_total 0 (a - b - c - d) with k | k
                    · rcases Int.le_total 0 (-a + b + d + e) with k | k
                      · obtain ⟨rfl, rfl, rfl, rfl⟩ := dq01p10 hr (by omega) (by omega) (by omega) (by omega) (by omega)
                        obtain ⟨rfl, rfl, rfl, rfl⟩ := dq01p10 hy (by omega) (by omega) (by omega) (by omega) (by omega)
                        obtain ⟨rfl, rfl, rfl, rfl⟩ := dq01p01 hw (by omega) (by omega) (by omega) (by omega) (by omega)
                        refine ⟨?_, ?_, ?_, ?_, ?_, ?_⟩ <;> omega
                      · obtain ⟨rfl, rfl, rfl, rfl⟩ := dq01p00 hr (by omega) (by omega) (by omega) (by omega) (by omega)
                        obtain ⟨rfl, rfl, rfl, rfl⟩ := dq01p00 hy (by omega) (by omega) (by omega) (by omega) (by omega)
                        obtain ⟨rfl, rfl, rfl, rfl⟩ := dq01p01 hw (by omega) (by omega) (by omega) (by omega) (by omega)
                        refine ⟨?_, ?_, ?_, ?_, ?_, ?_⟩ <;> omega
                    · obtain ⟨rfl, rfl, rfl, rfl⟩ := dq01n hr (by omega) (by omega) (by omega)
                      obtain ⟨rfl, rfl, rfl, rfl⟩ := dq01n hy (by omega) (by omega) (by omega)
                      obtain ⟨rfl, rfl, rfl, rfl⟩ := dq01p01 hw (by omega) (by omega) (by omega) (by omega) (by omega)
                      refine ⟨?_, ?_, ?_, ?_, ?_, ?_⟩ <;> omega
                  · obtain ⟨rfl, rfl, rfl, rfl⟩ := dq01p10 hx (by omega) (by omega) (by omega) (by omega) (by omega)
                    rcases Int.le_total 0 (a - b - c - d) with k | k
                    · rcases Int.le_total 0 (-a + b + d + e) with k | k
                      · obtain ⟨rfl, rfl, rfl, rfl⟩ := dq01p10 hr (by omega) (by omega) (by omega) (by omega) (by omega)
                        obtain ⟨rfl, rfl, rfl, rfl⟩ := dq01p10 hy (by omega) (by omega) (by omega) (by omega) (by omega)
                        obtain ⟨rfl, rfl, rfl, rfl⟩ := dq01p00 hw (by omega) (by omega) (by omega) (by omega) (by omega)
                        refine ⟨?_, ?_, ?_, ?_, ?_, ?_⟩ <;> omega
                      · obtain ⟨rfl, rfl, rfl, rfl⟩ := dq01p00 hr (by omega) (by omega) (by omega) (by omega) (by omega)
                        obtain ⟨rfl, rfl, rfl, rfl⟩ := dq01p00 hy (by omega) (by omega) (by omega) (by omega) (by omega)
                        obtain ⟨rfl, rfl, rfl, rfl⟩ := dq01p00 hw (by omega) (by omega) (by omega) (by omega) (by omega)
                        refine ⟨?_, ?_, ?_, ?_, ?_, ?_⟩ <;> omega
                    · obtain ⟨rfl, rfl, rfl, rfl⟩ := dq01n hr (by omega) (by omega) (by omega)
                      obtain ⟨rfl, rfl, rfl, rfl⟩ := dq01n hy (by omega) (by omega) (by omega)
                      obtain ⟨rfl, rfl, rfl, rfl⟩ := dq01p00 hw (by omega) (by omega) (by omega) (by omega) (by omega)
                      refine ⟨?_, ?_, ?_, ?_, ?_, ?_⟩ <;> omega
                · obtain ⟨rfl, rfl, rfl, rfl⟩ := dq11p01 hq (by omega) (by omega) (by omega) (by omega)
                  rcases Int.le_total 0 (a + d - e + f) with k | k
                  · obtain ⟨rfl, rfl, rfl, rfl⟩ := dq01p01 hx (by omega) (by omega) (by omega) (by omega) (by omega)
                    rcases Int.le_total 0 (a - b - c - d) with k | k
                    · obtain ⟨rfl, rfl, rfl, rfl⟩ := dq00p00 hr (by omega) (by omega) (by omega) (by omega)
                      obtain ⟨rfl, rfl, rfl, rfl⟩ := dq00p00 hy (by omega) (by omega) (by omega) (by omega)
                      obtain ⟨rfl, rfl, rfl, rfl⟩ := dq01p01 hw (by omega) (by omega) (by omega) (by omega) (by omega)
                      refine ⟨?_, ?_, ?_, ?_, ?_, ?_⟩ <;> omega
                    · obtain ⟨rfl, rfl, rfl, rfl⟩ := dq00n hr (by omega) (by omega) (by omega)
                      obtain ⟨rfl, rfl, rfl, rfl⟩ := dq00n hy (by omega) (by omega) (by omega)
                      obtain ⟨rfl, rfl, rfl, rfl⟩ := dq01p01 hw (by omega) (by omega) (by omega) (by omega) (by omega)
                      refine ⟨?_, ?_, ?_, ?_, ?_, ?_⟩ <;> omega
                  · obtain ⟨rfl, rfl, rfl, rfl⟩ := dq01p00 hx (by omega) (by omega) (by omega) (by omega) (by omega)
                    rcases Int.le_total 0 (a - b - c - d) with k | k
                    · obtain ⟨rfl, rfl, rfl, rfl⟩ := dq00p00 hr (by omega) (by omega) (by omega) (by omega)
                      obtain ⟨rfl, rfl, rfl, rfl⟩ := dq00p00 hy (by omega) (by omega) (by omega) (by omega)
                      obtain ⟨rfl, rfl, rfl, rfl⟩ := dq01p00 hw (by omega) (by omega) (by omega) (by omega) (by omega)
                      refine ⟨?_, ?_, ?_, ?_, ?_, ?_⟩ <;> omega
                    · obtain ⟨rfl, rfl, rfl, rfl⟩ := dq00n hr (by omega) (by omega) (by omega)
                      obtain ⟨rfl, rfl, rfl, rfl⟩ := dq00n hy (by omega) (by omega) (by omega)
                      obtain ⟨rfl, rfl, rfl, rfl⟩ := dq01p00 hw (by omega) (by omega) (by omega) (by omega) (by omega)
                      refine ⟨?_, ?_, ?_, ?_, ?_, ?_⟩ <;> omega
              · obtain ⟨rfl, rfl, rfl, rfl⟩ := dq11n hq (by omega) (by omega) (by omega)
                obtain ⟨rfl, rfl, rfl, rfl⟩ := dq01n hx (by omega) (by omega) (by omega)
                rcases Int.le_total 0 (a - b - d - e + f) with k | k
                · rcases Int.le_total 0 (-a + b + d + e) with k | k
                  · obtain ⟨rfl, rfl, rfl, rfl⟩ := dq01p10 hr (by omega) (by omega) (by omega) (by omega) (by omega)
                    obtain ⟨rfl, rfl, rfl, rfl⟩ := dq01p10 hy (by omega) (by omega) (by omega) (by omega) (by omega)
                    obtain ⟨rfl, rfl, rfl, rfl⟩ := dq01p00 hw (by omega) (by omega) (by omega) (by omega) (by omega)
                    refine ⟨?_, ?_, ?_, ?_, ?_, ?_⟩ <;> omega
                  · obtain ⟨rfl, rfl, rfl, rfl⟩ := dq01p00 hr (by omega) (by omega) (by omega) (by omega) (by omega)
                    obtain ⟨rfl, rfl, rfl, rfl⟩ := dq01p00 hy (by omega) (by omega) (by omega) (by omega) (by omega)
                    obtain ⟨rfl, rfl, rfl, rfl⟩ := dq01p00 hw (by omega) (by omega) (by omega) (by omega) (by omega)
                    refine ⟨?_, ?_, ?_, ?_, ?_, ?_⟩ <;> omega
                · obtain ⟨rfl, rfl, rfl, rfl⟩ := dq01n hr (by omega) (by omega) (by omega)
                  obtain ⟨rfl, rfl, rfl, rfl⟩ := dq01n hy (by omega) (by omega) (by omega)
                  obtain ⟨rfl, rfl, rfl, rfl⟩ := dq01p00 hw (by omega) (by omega) (by omega) (by omega) (by omega)
                  refine ⟨?_, ?_, ?_, ?_, ?_, ?_⟩ <;> omega
            · rcases Int.le_total 0 (c - e) with k | k
              · obtain ⟨rfl, rfl, rfl, rfl⟩ := dq10p01 hq (by omega) (by omega) (by omega)
                rcases Int.le_total 0 (a + d - e) with k | k
                · obtain ⟨rfl, rfl, rfl, rfl⟩ := dq00p01 hx (by omega) (by omega) (by omega) (by omega)
                  rcases Int.le_total 0 (a - b - c - d) with k | k
                  · obtain ⟨rfl, rfl, rfl, rfl⟩ := dq00p00 hr (by omega) (by omega) (by omega) (by omega)
                    obtain ⟨rfl, rfl, rfl, rfl⟩ := dq00p00 hy (by omega) (by omega) (by omega) (by omega)
                    obtain ⟨rfl, rfl, rfl, rfl⟩ := dq01p01 hw (by omega) (by omega) (by omega) (by omega) (by omega)
                    refine ⟨?_, ?_, ?_, ?_, ?_, ?_⟩ <;> omega
                  · obtain ⟨rfl, rfl, rfl, rfl⟩ := dq00n hr (by omega) (by omega) (by omega)
                    obtain ⟨rfl, rfl, rfl, rfl⟩ := dq00n hy (by omega) (by omega) (by omega)
                    obtain ⟨rfl, rfl, rfl, rfl⟩ := dq01p01 hw (by omega) (by omega) (by omega) (by omega) (by omega)
                    refine ⟨?_, ?_, ?_, ?_, ?_, ?_⟩ <;> omega
                · obtain ⟨rfl, rfl, rfl, rfl⟩ := dq00p00 hx (by omega) (by omega) (by omega) (by omega)
                  rcases Int.le_total 0 (a - b - c - d) with k | k
                  · obtain ⟨rfl, rfl, rfl, rfl⟩ := dq00p00 hr (by omega) (by omega) (by omega) (by omega)
                    obtain ⟨rfl, rfl, rfl, rfl⟩ := dq00p00 hy (by omega) (by omega) (by omega) (by omega)
                    obtain ⟨rfl, rfl, rfl, rfl⟩ := dq01p00 hw (by omega) (by omega) (by omega) (by omega) (by omega)
                    refine ⟨?_, ?_, ?_, ?_, ?_, ?_⟩ <;> omega
                  · obtain ⟨rfl, rfl, rfl, rfl⟩ := dq00n hr (by omega) (by omega) (by omega)
                    obtain ⟨rfl, rfl, rfl, rfl⟩ := dq00n hy (by omega) (by omega) (by omega)
                    obtain ⟨rfl, rfl, rfl, rfl⟩ := dq01p00 hw (by omega) (by omega) (by omega) (by omega) (by omega)
                    refine ⟨?_, ?_, ?_, ?_, ?_, ?_⟩ <;> omega
              · obtain ⟨rfl, rfl, rfl, rfl⟩ := dq10n hq (by omega) (by omega) (by omega)
                obtain ⟨rfl, rfl, rfl, rfl⟩ := dq00n hx (by omega) (by omega) (by omega)
                rcases Int.le_total 0 (a - b - d - e) with k | k
                · obtain ⟨rfl, rfl, rfl, rfl⟩ := dq00p00 hr (by omega) (by omega) (by omega) (by omega)
                  obtain ⟨rfl, rfl, rfl, rfl⟩ := dq00p00 hy (by omega) (by omega) (by omega) (by omega)
                  obtain ⟨rfl, rfl, rfl, rfl⟩ := dq01p00 hw (by omega) (by omega) (by omega) (by omega) (by omega)
                  refine ⟨?_, ?_, ?_, ?_, ?_, ?_⟩ <;> omega
                · obtain ⟨rfl, rfl, rfl, rfl⟩ := dq00n hr (by omega) (by omega) (by omega)
                  obtain ⟨rfl, rfl, rfl, rfl⟩ := dq00n hy (by omega) (by omega) (by omega)
                  obtain ⟨rfl, rfl, rfl, rfl⟩ := dq01p00 hw (by omega) (by omega) (by omega) (by omega) (by omega)
                  refine ⟨?_, ?_, ?_, ?_, ?_, ?_⟩ <;> omega
      · obtain ⟨rfl, rfl, rfl, rfl⟩ := dq01n hp (by omega) (by omega) (by omega)
        rcases Int.le_total 0 (f) with k | k
        · rcases Int.le_total 0 (c - e + f) with k | k
          · rcases Int.le_total 0 (-c + e) with k | k
            · obtain ⟨rfl, rfl, rfl, rfl⟩ := dq11p11 hq (by omega) (by omega) (by omega) (by omega)
              rcases Int.le_total 0 (a - b + d - e + f) with k | k
              · rcases Int.le_total 0 (a + d - e + f) with k | k
                · obtain ⟨rfl, rfl, rfl, rfl⟩ := dq01p11 hx (by omega) (by omega) (by omega) (by omega) (by omega)
                  obtain ⟨rfl, rfl, rfl, rfl⟩ := dq01n hr (by omega) (by omega) (by omega)
                  obtain ⟨rfl, rfl, rfl, rfl⟩ := dq11p11 hy (by omega) (by omega) (by omega) (by omega)
                  obtain ⟨rfl, rfl, rfl, rfl⟩ := dq01p11 hw (by omega) (by omega) (by omega) (by omega) (by omega)
                  refine ⟨?_, ?_, ?_, ?_, ?_, ?_⟩ <;> omega
                · obtain ⟨rfl, rfl, rfl, rfl⟩ := dq01p10 hx (by omega) (by omega) (by omega) (by omega) (by omega)
                  obtain ⟨rfl, rfl, rfl, rfl⟩ := dq01n hr (by omega) (by omega) (by omega)
                  obtain ⟨rfl, rfl, rfl, rfl⟩ := dq11p11 hy (by omega) (by omega) (by omega) (by omega)
                  obtain ⟨rfl, rfl, rfl, rfl⟩ := dq01p10 hw (by omega) (by omega) (by omega) (by omega) (by omega)
                  refine ⟨?_, ?_, ?_, ?_, ?_, ?_⟩ <;> omega
              · obtain ⟨rfl, rfl, rfl, rfl⟩ := dq01n hx (by omega) (by omega) (by omega)
                obtain ⟨rfl, rfl, rfl, rfl⟩ := dq01n hr (by omega) (by omega) (by omega)
                obtain ⟨rfl, rfl, rfl, rfl⟩ := dq11p11 hy (by omega) (by omega) (by omega) (by omega)
                obtain ⟨rfl, rfl, rfl, rfl⟩ := dq01n hw (by omega) (by omega) (by omega)
                refine ⟨?_, ?_, ?_, ?_, ?_, ?_⟩ <;> omega
            · obtain ⟨rfl, rfl, rfl, rfl⟩ := dq11p01 hq (by omega) (by omega) (by omega) (by omega)
              rcases Int.le_total 0 (a - b + d - e + f) with k | k
              · rcases Int.le_total 0 (-a + b - d + e) with k | k
                · rcases Int.le_total 0 (a + d - e + f) with k | k
                  · obtain ⟨rfl, rfl, rfl, rfl⟩ := dq01p11 hx (by omega) (by omega) (by omega) (by omega) (by omega)
                    obtain ⟨rfl, rfl, rfl, rfl⟩ := dq00n hr (by omega) (by omega) (by omega)
                    obtain ⟨rfl, rfl, rfl, rfl⟩ := dq11p01 hy (by omega) (by omega) (by omega) (by omega)
                    obtain ⟨rfl, rfl, rfl, rfl⟩ := dq01p11 hw (by omega) (by omega) (by omega) (by omega) (by omega)
                    refine ⟨?_, ?_, ?_, ?_, ?_, ?_⟩ <;> omega
                  · obtain ⟨rfl, rfl, rfl, rfl⟩ := dq01p10 hx (by omega) (by omega) (by omega) (by omega) (by omega)
                    obtain ⟨rfl, rfl, rfl, rfl⟩ := dq00n hr (by omega) (by omega) (by omega)
                    obtain ⟨rfl, rfl, rfl, rfl⟩ := dq11p01 hy (by omega) (by omega) (by omega) (by omega)
                    obtain ⟨rfl, rfl, rfl, rfl⟩ := dq01p10 hw (by omega) (by omega) (by omega) (by omega) (by omega)
                    refine ⟨?_, ?_, ?_, ?_, ?_, ?_⟩ <;> omega
                · rcases Int.le_total 0 (a + d - e + f) with k | k
                  · obtain ⟨rfl, rfl, rfl, rfl⟩ := dq01p01 hx (by omega) (by omega) (by omega) (by omega) (by omega)
                    obtain ⟨rfl, rfl, rfl, rfl⟩ := dq00n hr (by omega) (by omega) (by omega)
                    obtain ⟨rfl, rfl, rfl, rfl⟩ := dq10p01 hy (by omega) (by omega) (by omega)
                    obtain ⟨rfl, rfl, rfl, rfl⟩ := dq01p11 hw (by omega) (by omega) (by omega) (by omega) (by omega)
                    refine ⟨?_, ?_, ?_, ?_, ?_, ?_⟩ <;> omega
                  · obtain ⟨rfl, rfl, rfl, rfl⟩ := dq01p00 hx (by omega) (by omega) (by omega) (by omega) (by omega)
                    obtain ⟨rfl, rfl, rfl, rfl⟩ := dq00n hr (by omega) (by omega) (by omega)
                    obtain ⟨rfl, rfl, rfl, rfl⟩ := dq10p01 hy (by omega) (by omega) (by omega)
                    obtain ⟨rfl, rfl, rfl, rfl⟩ := dq01p10 hw (by omega) (by omega) (by omega) (by omega) (by omega)
                    refine ⟨?_, ?_, ?_, ?_, ?_, ?_⟩ <;> omega
              · obtain ⟨rfl, rfl, rfl, rfl⟩ := dq01n hx (by omega) (by omega) (by omega)
                obtain ⟨rfl, rfl, rfl, rfl⟩ := dq00n hr (by omega) (by omega) (by omega)
                obtain ⟨rfl, rfl, rfl, rfl⟩ := dq11p01 hy (by omega) (by omega) (by omega) (by omega)
                obtain ⟨rfl, rfl, rfl, rfl⟩ := dq01n hw (by omega) (by omega) (by omega)
                refine ⟨?_, ?_, ?_, ?_, ?_, ?_⟩ <;> omega
          · obtain ⟨rfl, rfl, rfl, rfl⟩ := dq11n hq (by omega) (by omega) (by omega)
            obtain ⟨rfl, rfl, rfl, rfl⟩ := dq01n hx (by omega) (by omega) (by omega)
            obtain ⟨rfl, rfl, rfl, rfl⟩ := dq01n hr (by omega) (by omega) (by omega)
            obtain ⟨rfl, rfl, rfl, rfl⟩ := dq11n hy (by omega) (by omega) (by omega)
            obtain ⟨rfl, rfl, rfl, rfl⟩ := dq01n hw (by omega) (by omega) (by omega)
            refine ⟨?_, ?_, ?_, ?_, ?_, ?_⟩ <;> omega
        · rcases Int.le_total 0 (c - e) with k | k
          · obtain ⟨rfl, rfl, rfl, rfl⟩ := dq10p01 hq (by omega) (by omega) (by omega)
            rcases Int.le_total 0 (a - b + d - e) with k | k
            · rcases Int.le_total 0 (a + d - e) with k | k
              · obtain ⟨rfl, rfl, rfl, rfl⟩ := dq00p01 hx (by omega) (by omega) (by omega) (by omega)
                obtain ⟨rfl, rfl, rfl, rfl⟩ := dq00n hr (by omega) (by omega) (by omega)
                obtain ⟨rfl, rfl, rfl, rfl⟩ := dq10p01 hy (by omega) (by omega) (by omega)
                obtain ⟨rfl, rfl, rfl, rfl⟩ := dq01p11 hw (by omega) (by omega) (by omega) (by omega) (by omega)
                refine ⟨?_, ?_, ?_, ?_, ?_, ?_⟩ <;> omega
              · obtain ⟨rfl, rfl, rfl, rfl⟩ := dq00p00 hx (by omega) (by omega) (by omega) (by omega)
                obtain ⟨rfl, rfl, rfl, rfl⟩ := dq00n hr (by omega) (by omega) (by omega)
                obtain ⟨rfl, rfl, rfl, rfl⟩ := dq10p01 hy (by omega) (by omega) (by omega)
                obtain ⟨rfl, rfl, rfl, rfl⟩ := dq01p10 hw (by omega) (by omega) (by omega) (by omega) (by omega)
                refine ⟨?_, ?_, ?_, ?_, ?_, ?_⟩ <;> omega
            · obtain ⟨rfl, rfl, rfl, rfl⟩ := dq00n hx (by omega) (by omega) (by omega)
              obtain ⟨rfl, rfl, rfl, rfl⟩ := dq00n hr (by omega) (by omega) (by omega)
              obtain ⟨rfl, rfl, rfl, rfl⟩ := dq10p01 hy (by omega) (by omega) (by omega)
              obtain ⟨rfl, rfl, rfl, rfl⟩ := dq01n hw (by omega) (by omega) (by omega)
              refine ⟨?_, ?_, ?_, ?_, ?_, ?_⟩ <;> omega
          · obtain ⟨rfl, rfl, rfl, rfl⟩ := dq10n hq (by omega) (by omega) (by omega)
            obtain ⟨rfl, rfl, rfl, rfl⟩ := dq00n hx (by omega) (by omega) (by omega)
            obtain ⟨rfl, rfl, rfl, rfl⟩ := dq00n hr (by omega) (by omega) (by omega)
            obtain ⟨rfl, rfl, rfl, rfl⟩ := dq10n hy (by omega) (by omega) (by omega)
            obtain ⟨rfl, rfl, rfl, rfl⟩ := dq01n hw (by omega) (by omega) (by omega)
            refine ⟨?_, ?_, ?_, ?_, ?_, ?_⟩ <;> omega
    · rcases Int.le_total 0 (a - b - c) with k | k
      · rcases Int.le_total 0 (a - c) with k | k
        · obtain ⟨rfl, rfl, rfl, rfl⟩ := dq00p01 hp (by omega) (by omega) (by omega) (by omega)
          rcases Int.le_total 0 (f) with k | k
          · rcases Int.le_total 0 (c - d - e + f) with k | k
            · rcases Int.le_total 0 (-c + d + e) with k | k
              · rcases Int.le_total 0 (c - e + f) with k | k
                · obtain ⟨rfl, rfl, rfl, rfl⟩ := dq01p11 hq (by omega) (by omega) (by omega) (by omega) (by omega)
                  rcases Int.le_total 0 (c + d - e + f) with k | k
                  · obtain ⟨rfl, rfl, rfl, rfl⟩ := dq11p11 hx (by omega) (by omega) (by omega) (by omega)
                    rcases Int.le_total 0 (-a + b + d + e) with k | k
                    · obtain ⟨rfl, rfl, rfl, rfl⟩ := dq01p11 hr (by omega) (by omega) (by omega) (by omega) (by omega)
                      obtain ⟨rfl, rfl, rfl, rfl⟩ := dq01p11 hy (by omega) (by omega) (by omega) (by omega) (by omega)
                      obtain ⟨rfl, rfl, rfl, rfl⟩ := dq11p11 hw (by omega) (by omega) (by omega) (by omega)
                      refine ⟨?_, ?_, ?_, ?_, ?_, ?_⟩ <;> omega
                    · obtain ⟨rfl, rfl, rfl, rfl⟩ := dq01p01 hr (by omega) (by omega) (by omega) (by omega) (by omega)
                      obtain ⟨rfl, rfl, rfl, rfl⟩ := dq01p01 hy (by omega) (by omega) (by omega) (by omega) (by omega)
                      obtain ⟨rfl, rfl, rfl, rfl⟩ := dq11p11 hw (by omega) (by omega) (by omega) (by omega)
                      refine ⟨?_, ?_, ?_, ?_, ?_, ?_⟩ <;> omega
                  · obtain ⟨rfl, rfl, rfl, rfl⟩ := dq11n hx (by omega) (by omega) (by omega)
                    rcases Int.le_total 0 (-a + b + d + e) with k | k
                    · obtain ⟨rfl, rfl, rfl, rfl⟩ := dq01p11 hr (by omega) (by omega) (by omega) (by omega) (by omega)
                      obtain ⟨rfl, rfl, rfl, rfl⟩ := dq01p11 hy (by omega) (by omega) (by omega) (by omega) (by omega)
                      obtain ⟨rfl, rfl, rfl, rfl⟩ := dq11n hw (by omega) (by omega) (by omega)
                      refine ⟨?_, ?_, ?_, ?_, ?_, ?_⟩ <;> omega
                    · obtain ⟨rfl, rfl, rfl, rfl⟩ := dq01p01 hr (by omega) (by omega) (by omega) (by omega) (by omega)
                      obtain ⟨rfl, rfl, rfl, rfl⟩ := dq01p01 hy (by omega) (by omega) (by omega) (by omega) (by omega)
                      obtain ⟨rfl, rfl, rfl, rfl⟩ := dq11n hw (by omega) (by omega) (by omega)
                      refine ⟨?_, ?_, ?_, ?_, ?_, ?_⟩ <;> omega
                · obtain ⟨rfl, rfl, rfl, rfl⟩ := dq01p10 hq (by omega) (by omega) (by omega) (by omega) (by omega)
                  obtain ⟨rfl, rfl, rfl, rfl⟩ := dq11n hx (by omega) (by omega) (by omega)
                  rcases Int.le_total 0 (-a + b + d + e) with k | k
                  · obtain ⟨rfl, rfl, rfl, rfl⟩ := dq01p11 hr (by omega) (by omega) (by omega) (by omega) (by omega)
                    obtain ⟨rfl, rfl, rfl, rfl⟩ := dq01p10 hy (by omega) (by omega) (by omega) (by omega) (by omega)
                    obtain ⟨rfl, rfl, rfl, rfl⟩ := dq10n hw (by omega) (by omega) (by omega)
                    refine ⟨?_, ?_, ?_, ?_, ?_, ?_⟩ <;> omega
                  · obtain ⟨rfl, rfl, rfl, rfl⟩ := dq01p01 hr (by omega) (by omega) (by omega) (by omega) (by omega)
                    obtain ⟨rfl, rfl, rfl, rfl⟩ := dq01p00 hy (by omega) (by omega) (by omega) (by omega) (by omega)
                    obtain ⟨rfl, rfl, rfl, rfl⟩ := dq10n hw (by omega) (by omega) (by omega)
                    refine ⟨?_, ?_, ?_, ?_, ?_, ?_⟩ <;> omega
              · rcases Int.le_total 0 (c - e + f) with k | k
                · obtain ⟨rfl, rfl, rfl, rfl⟩ := dq01p01 hq (by omega) (by omega) (by omega) (by omega) (by omega)
                  rcases Int.le_total 0 (c + d - e + f) with k | k
                  · rcases Int.le_total 0 (-c - d + e) with k | k
                    · obtain ⟨rfl, rfl, rfl, rfl⟩ := dq11p11 hx (by omega) (by omega) (by omega) (by omega)
                      obtain ⟨rfl, rfl, rfl, rfl⟩ := dq00p01 hr (by omega) (by omega) (by omega) (by omega)
                      obtain ⟨rfl, rfl, rfl, rfl⟩ := dq01p01 hy (by omega) (by omega) (by omega) (by omega) (by omega)
                      obtain ⟨rfl, rfl, rfl, rfl⟩ := dq11p11 hw (by omega) (by omega) (by omega) (by omega)
                      refine ⟨?_, ?_, ?_, ?_, ?_, ?_⟩ <;> omega
                    · obtain ⟨rfl, rfl, rfl, rfl⟩ := dq11p01 hx (by omega) (by omega) (by omega) (by omega)
                      obtain ⟨rfl, rfl, rfl, rfl⟩ := dq00p01 hr (by omega) (by omega) (by omega) (by omega)
                      obtain ⟨rfl, rfl, rfl, rfl⟩ := dq00p01 hy (by omega) (by omega) (by omega) (by omega)
                      obtain ⟨rfl, rfl, rfl, rfl⟩ := dq11p11 hw (by omega) (by omega) (by omega) (by omega)
                      refine ⟨?_, ?_, ?_, ?_, ?_, ?_⟩ <;> omega
                  · obtain ⟨rfl, rfl, rfl, rfl⟩ := dq11n hx (by omega) (by omega) (by omega)
                    obtain ⟨rfl, rfl, rfl, rfl⟩ := dq00p01 hr (by omega) (by omega) (by omega) (by omega)
                    obtain ⟨rfl, rfl, rfl, rfl⟩ := dq01p01 hy (by omega) (by omega) (by omega) (by omega) (by omega)
                    obtain ⟨rfl, rfl, rfl, rfl⟩ := dq11n hw (by omega) (by omega) (by omega)
                    refine ⟨?_, ?_, ?_, ?_, ?_, ?_⟩ <;> omega
                · obtain ⟨rfl, rfl, rfl, rfl⟩ := dq01p00 hq (by omega) (by omega) (by omega) (by omega) (by omega)
                  obtain ⟨rfl, rfl, rfl, rfl⟩ := dq11n hx (by omega) (by omega) (by omega)
                  obtain ⟨rfl, rfl, rfl, rfl⟩ := dq00p01 hr (by omega) (by omega) (by omega) (by omega)
                  obtain ⟨rfl, rfl, rfl, rfl⟩ := dq01p00 hy (by omega) (by omega) (by omega) (by omega) (by omega)
                  obtain ⟨rfl, rfl, rfl, rfl⟩ := dq10n hw (by omega) (by omega) (by omega)
                  refine ⟨?_, ?_, ?_, ?_, ?_, ?_⟩ <;> omega
            · obtain ⟨rfl, rfl, rfl, rfl⟩ := dq01n hq (by omega) (by omega) (by omega)
              obtain ⟨rfl, rfl, rfl, rfl⟩ := dq11n hx (by omega) (by omega) (by omega)
              rcases Int.le_total 0 (a - b - d - e + f) with k | k
              · rcases Int.le_total 0 (-a + b + d + e) with k | k
                · rcases Int.le_total 0 (a - d - e + f) with k | k
                  · obtain ⟨rfl, rfl, rfl, rfl⟩ := dq01p11 hr (by omega) (by omega) (by omega) (by omega) (by omega)
                    obtain ⟨rfl, rfl, rfl, rfl⟩ := dq01p10 hy (by omega) (by omega) (by omega) (by omega) (by omega)
                    obtain ⟨rfl, rfl, rfl, rfl⟩ := dq10p01 hw (by omega) (by omega) (by omega)
                    refine ⟨?_, ?_, ?_, ?_, ?_, ?_⟩ <;> omega
                  · obtain ⟨rfl, rfl, rfl, rfl⟩ := dq01p10 hr (by omega) (by omega) (by omega) (by omega) (by omega)
                    obtain ⟨rfl, rfl, rfl, rfl⟩ := dq01p10 hy (by omega) (by omega) (by omega) (by omega) (by omega)
                    obtain ⟨rfl, rfl, rfl, rfl⟩ := dq00p01 hw (by omega) (by omega) (by omega) (by omega)
                    refine ⟨?_, ?_, ?_, ?_, ?_, ?_⟩ <;> omega
                · rcases Int.le_total 0 (a - d - e + f) with k | k
                  · obtain ⟨rfl, rfl, rfl, rfl⟩ := dq01p01 hr (by omega) (by omega) (by omega) (by omega) (by omega)
                    obtain ⟨rfl, rfl, rfl, rfl⟩ := dq01p00 hy (by omega) (by omega) (by omega) (by omega) (by omega)
                    obtain ⟨rfl, rfl, rfl, rfl⟩ := dq10p01 hw (by omega) (by omega) (by omega)
                    refine ⟨?_, ?_, ?_, ?_, ?_, ?_⟩ <;> omega
                  · obtain ⟨rfl, rfl, rfl, rfl⟩ := dq01p00 hr (by omega) (by omega) (by omega) (by omega) (by omega)
                    obtain ⟨rfl, rfl, rfl, rfl⟩ := dq01p00 hy (by omega) (by omega) (by omega) (by omega) (by omega)
                    obtain ⟨rfl, rfl, rfl, rfl⟩ := dq00p01 hw (by omega) (by omega) (by omega) (by omega)
                    refine ⟨?_, ?_, ?_, ?_, ?_, ?_⟩ <;> omega
              · obtain ⟨rfl, rfl, rfl, rfl⟩ := dq01n hr (by omega) (by omega) (by omega)
                obtain ⟨rfl, rfl, rfl, rfl⟩ := dq01n hy (by omega) (by omega) (by omega)
                obtain ⟨rfl, rfl, rfl, rfl⟩ := dq00p01 hw (by omega) (by omega) (by omega) (by omega)
                refine ⟨?_, ?_, ?_, ?_, ?_, ?_⟩ <;> omega
          · rcases Int.le_total 0 (c - d - e) with k | k
            · rcases Int.le_total 0 (c - e) with k | k
              · obtain ⟨rfl, rfl, rfl, rfl⟩ := dq00p01 hq (by omega) (by omega) (by omega) (by omega)
                rcases Int.le_total 0 (c + d - e) with k | k
                · obtain ⟨rfl, rfl, rfl, rfl⟩ := dq10p01 hx (by omega) (by omega) (by omega)
                  obtain ⟨rfl, rfl, rfl, rfl⟩ := dq00p01 hr (by omega) (by omega) (by omega) (by omega)
                  obtain ⟨rfl, rfl, rfl, rfl⟩ := dq00p01 hy (by omega) (by omega) (by omega) (by omega)
                  obtain ⟨rfl, rfl, rfl, rfl⟩ := dq11p11 hw (by omega) (by omega) (by omega) (by omega)
                  refine ⟨?_, ?_, ?_, ?_, ?_, ?_⟩ <;> omega
                · obtain ⟨rfl, rfl, rfl, rfl⟩ := dq10n hx (by omega) (by omega) (by omega)
                  obtain ⟨rfl, rfl, rfl, rfl⟩ := dq00p01 hr (by omega) (by omega) (by omega) (by omega)
                  obtain ⟨rfl, rfl, rfl, rfl⟩ := dq00p01 hy (by omega) (by omega) (by omega) (by omega)
                  obtain ⟨rfl, rfl, rfl, rfl⟩ := dq11n hw (by omega) (by omega) (by omega)
                  refine ⟨?_, ?_, ?_, ?_, ?_, ?_⟩ <;> omega
              · obtain ⟨rfl, rfl, rfl, rfl⟩ := dq00p00 hq (by omega) (by omega) (by omega) (by omega)
                obtain ⟨rfl, rfl, rfl, rfl⟩ := dq10n hx (by omega) (by omega) (by omega)
                obtain ⟨rfl, rfl, rfl, rfl⟩ := dq00p01 hr (by omega) (by omega) (by omega) (by omega)
                obtain ⟨rfl, rfl, rfl, rfl⟩ := dq00p00 hy (by omega) (by omega) (by omega) (by omega)
                obtain ⟨rfl, rfl, rfl, rfl⟩ := dq10n hw (by omega) (by omega) (by omega)
                refine ⟨?_, ?_, ?_, ?_, ?_, ?_⟩ <;> omega
            · obtain ⟨rfl, rfl, rfl, rfl⟩ := dq00n hq (by omega) (by omega) (by omega)
              obtain ⟨rfl, rfl, rfl, rfl⟩ := dq10n hx (by omega) (by omega) (by omega)
              rcases Int.le_total 0 (a - b - d - e) with k | k
              · rcases Int.le_total 0 (a - d - e) with k | k
                · obtain ⟨rfl, rfl, rfl, rfl⟩ := dq00p01 hr (by omega) (by omega) (by omega) (by omega)
                  obtain ⟨rfl, rfl, rfl, rfl⟩ := dq00p00 hy (by omega) (by omega) (by omega) (by omega)
                  obtain ⟨rfl, rfl, rfl, rfl⟩ := dq10p01 hw (by omega) (by omega) (by omega)
                  refine ⟨?_, ?_, ?_, ?_, ?_, ?_⟩ <;> omega
                · obtain ⟨rfl, rfl, rfl, rfl⟩ := dq00p00 hr (by omega) (by omega) (by omega) (by omega)
                  obtain ⟨rfl, rfl, rfl, rfl⟩ := dq00p00 hy (by omega) (by omega) (by omega) (by omega)
                  obtain ⟨rfl, rfl, rfl, rfl⟩ := dq00p01 hw (by omega) (by omega) (by omega) (by omega)
                  refine ⟨?_, ?_, ?_, ?_, ?_, ?_⟩ <;> omega
              · obtain ⟨rfl, rfl, rfl, rfl⟩ := dq00n hr (by omega) (by omega) (by omega)
                obtain ⟨rfl, rfl, rfl, rfl⟩ := dq00n hy (by omega) (by omega) (by omega)
                obtain ⟨rfl, rfl, rfl, rfl⟩ := dq00p01 hw (by omega) (by omega) (by omega) (by omega)
                refine ⟨?_, ?_, ?_, ?_, ?_, ?_⟩ <;> omega
        · obtain ⟨rfl, rfl, rfl, rfl⟩ := dq00p00 hp (by omega) (by omega) (by omega) (by omega)
          rcases Int.le_total 0 (f) with k | k
          · rcases Int.le_total 0 (c - d - e + f) with k | k
            · rcases Int.le_total 0 (-c + d + e) with k | k
              · rcases Int.le_total 0 (c - e + f) with k | k
                · obtain ⟨rfl, rfl, rfl, rfl⟩ := dq01p11 hq (by omega) (by omega) (by omega) (by omega) (by omega)
                  rcases Int.le_total 0 (c + d - e + f) with k | k
                  · rcases Int.le_total 0 (a + d - e + f) with k | k
                    · obtain ⟨rfl, rfl, rfl, rfl⟩ := dq01p11 hx (by omega) (by omega) (by omega) (by omega) (by omega)
                      rcases Int.le_total 0 (-a + b + d + e) with k | k
                      · obtain ⟨rfl, rfl, rfl, rfl⟩ := dq01p10 hr (by omega) (by omega) (by omega) (by omega) (by omega)
                        obtain ⟨rfl, rfl, rfl, rfl⟩ := dq01p11 hy (by omega) (by omega) (by omega) (by omega) (by omega)
                        obtain ⟨rfl, rfl, rfl, rfl⟩ := dq01p11 hw (by omega) (by omega) (by omega) (by omega) (by omega)
                        refine ⟨?_, ?_, ?_, ?_, ?_, ?_⟩ <;> omega
                      · obtain ⟨rfl, rfl, rfl, rfl⟩ := dq01p00 hr (by omega) (by omega) (by omega) (by omega) (by omega)
                        obtain ⟨rfl, rfl, rfl, rfl⟩ := dq01p01 hy (by omega) (by omega) (by omega) (by omega) (by omega)
                        obtain ⟨rfl, rfl, rfl, rfl⟩ := dq01p11 hw (by omega) (by omega) (by omega) (by omega) (by omega)
                        refine ⟨?_, ?_, ?_, ?_, ?_, ?_⟩ <;> omega
                    · obtain ⟨rfl, rfl, rfl, rfl⟩ := dq01p10 hx (by omega) (by omega) (by omega) (by omega) (by omega)
                      rcases Int.le_total 0 (-a + b + d + e) with k | k
                      · obtain ⟨rfl, rfl, rfl, rfl⟩ := dq01p10 hr (by omega) (by omega) (by omega) (by omega) (by omega)
                        obtain ⟨rfl, rfl, rfl, rfl⟩ := dq01p11 hy (by omega) (by omega) (by omega) (by omega) (by omega)
                        obtain ⟨rfl, rfl, rfl, rfl⟩ := dq01p10 hw (by omega) (by omega) (by omega) (by omega) (by omega)
                        refine ⟨?_, ?_, ?_, ?_, ?_, ?_⟩ <;> omega
                      · obtain ⟨rfl, rfl, rfl, rfl⟩ := dq01p00 hr (by omega) (by omega) (by omega) (by omega) (by omega)
                        obtain ⟨rfl, rfl, rfl, rfl⟩ := dq01p01 hy (by omega) (by omega) (by omega) (by omega) (by omega)
                        obtain ⟨rfl, rfl, rfl, rfl⟩ := dq01p10 hw (by omega) (by omega) (by omega) (by omega) (by omega)
                        refine ⟨?_, ?_, ?_, ?_, ?_, ?_⟩ <;> omega
                  · obtain ⟨rfl, rfl, rfl, rfl⟩ := dq01n hx (by omega) (by omega) (by omega)
                    rcases Int.le_total 0 (-a + b + d + e) with k | k
                    · obtain ⟨rfl, rfl, rfl, rfl⟩ := dq01p10 hr (by omega) (by omega) (by omega) (by omega) (by omega)
                      obtain ⟨rfl, rfl, rfl, rfl⟩ := dq01p11 hy (by omega) (by omega) (by omega) (by omega) (by omega)
                      obtain ⟨rfl, rfl, rfl, rfl⟩ := dq01n hw (by omega) (by omega) (by omega)
                      refine ⟨?_, ?_, ?_, ?_, ?_, ?_⟩ <;> omega
                    · obtain ⟨rfl, rfl, rfl, rfl⟩ := dq01p00 hr (by omega) (by omega) (by omega) (by omega) (by omega)
                      obtain ⟨rfl, rfl, rfl, rfl⟩ := dq01p01 hy (by omega) (by omega) (by omega) (by omega) (by omega)
                      obtain ⟨rfl, rfl, rfl, rfl⟩ := dq01n hw (by omega) (by omega) (by omega)
                      refine ⟨?_, ?_, ?_, ?_, ?_, ?_⟩ <;> omega
                · obtain ⟨rfl, rfl, rfl, rfl⟩ := dq01p10 hq (by omega) (by omega) (by omega) (by omega) (by omega)
                  obtain ⟨rfl, rfl, rfl, rfl⟩ := dq01n hx (by omega) (by omega) (by omega)
                  rcases Int.le_total 0 (-a + b + d + e) with k | k
                  · obtain ⟨rfl, rfl, rfl, rfl⟩ := dq01p10 hr (by omega) (by omega) (by omega) (by omega) (by omega)
                    obtain ⟨rfl, rfl, rfl, rfl⟩ := dq01p10 hy (by omega) (by omega) (by omega) (by omega) (by omega)
                    obtain ⟨rfl, rfl, rfl, rfl⟩ := dq00n hw (by omega) (by omega) (by omega)
                    refine ⟨?_, ?_, ?_, ?_, ?_, ?_⟩ <;> omega
                  · obtain ⟨rfl, rfl, rfl, rfl⟩ := dq01p00 hr (by omega) (by omega) (by omega) (by omega) (by omega)
                    obtain ⟨rfl, rfl, rfl, rfl⟩ := dq01p00 hy (by omega) (by omega) (by omega) (by omega) (by omega)
                    obtain ⟨rfl, rfl, rfl, rfl⟩ := dq00n hw (by omega) (by omega) (by omega)
                    refine ⟨?_, ?_, ?_, ?_, ?_, ?_⟩ <;> omega
              · rcases Int.le_total 0 (c - e + f) with k | k
                · obtain ⟨rfl, rfl, rfl, rfl⟩ := dq01p01 hq (by omega) (by omega) (by omega) (by omega) (by omega)
                  rcases Int.le_total 0 (c + d - e + f) with k | k
                  · rcases Int.le_total 0 (-c - d + e) with k | k
                    · rcases Int.le_total 0 (a + d - e + f) with k | k
                      · obtain ⟨rfl, rfl, rfl, rfl⟩ := dq01p11 hx (by omega) (by omega) (by omega) (by omega) (by omega)
                        obtain ⟨rfl, rfl, rfl, rfl⟩ := dq00p00 hr (by omega) (by omega) (by omega) (by omega)
                        obtain ⟨rfl, rfl, rfl, rfl⟩ := dq01p01 hy (by omega) (by omega) (by omega) (by omega) (by omega)
                        obtain ⟨rfl, rfl, rfl, rfl⟩ := dq01p11 hw (by omega) (by omega) (by omega) (by omega) (by omega)
                        refine ⟨?_, ?_, ?_, ?_, ?_, ?_⟩ <;> omega
                      · obtain ⟨rfl, rfl, rfl, rfl⟩ := dq01p10 hx (by omega) (by omega) (by omega) (by omega) (by omega)
                        obtain ⟨rfl, rfl, rfl, rfl⟩ := dq00p00 hr (by omega) (by omega) (by omega) (by omega)
                        obtain ⟨rfl, rfl, rfl, rfl⟩ := dq01p01 hy (by omega) (by omega) (by omega) (by omega) (by omega)
                        obtain ⟨rfl, rfl, rfl, rfl⟩ := dq01p10 hw (by omega) (by omega) (by omega) (by omega) (by omega)
                        refine ⟨?_, ?_, ?_, ?_, ?_, ?_⟩ <;> omega
                    · rcases Int.le_total 0 (a + d - e + f) with k | k
                      · obtain ⟨rfl, rfl, rfl, rfl⟩ := dq01p01 hx (by omega) (by omega) (by omega) (by omega) (by omega)
                        obtain ⟨rfl, rfl, rfl, rfl⟩ := dq00p00 hr (by omega) (by omega) (by omega) (by omega)
                        obtain ⟨rfl, rfl, rfl, rfl⟩ := dq00p01 hy (by omega) (by omega) (by omega) (by omega)
                        obtain ⟨rfl, rfl, rfl, rfl⟩ := dq01p11 hw (by omega) (by omega) (by omega) (by omega) (by omega)
                        refine ⟨?_, ?_, ?_, ?_, ?_, ?_⟩ <;> omega
                      · obtain ⟨rfl, rfl, rfl, rfl⟩ := dq01p00 hx (by omega) (by omega) (by omega) (by omega) (by omega)
                        obtain ⟨rfl, rfl, rfl, rfl⟩ := dq00p00 hr (by omega) (by omega) (by omega) (by omega)
                        obtain ⟨rfl, rfl, rfl, rfl⟩ := dq00p01 hy (by omega) (by omega) (by omega) (by omega)
                        obtain ⟨rfl, rfl, rfl, rfl⟩ := dq01p10 hw (by omega) (by omega) (by omega) (by omega) (by omega)
                        refine ⟨?_, ?_, ?_, ?_, ?_, ?_⟩ <;> omega
                  · obtain ⟨rfl, rfl, rfl, rfl⟩ := dq01n hx (by omega) (by omega) (by omega)
                    obtain ⟨rfl, rfl, rfl, rfl⟩ := dq00p00 hr (by omega) (by omega) (by omega) (by omega)
                    obtain ⟨rfl, rfl, rfl, rfl⟩ := dq01p01 hy (by omega) (by omega) (by omega) (by omega) (by omega)
                    obtain ⟨rfl, rfl, rfl, rfl⟩ := dq01n hw (by omega) (by omega) (by omega)
                    refine ⟨?_, ?_, ?_, ?_, ?_, ?_⟩ <;> omega
                · obtain ⟨rfl, rfl, rfl, rfl⟩ := dq01p00 hq (by omega) (by omega) (by omega) (by omega) (by omega)
                  obtain ⟨rfl, rfl, rfl, rfl⟩ := dq01n hx (by omega) (by omega) (by omega)
                  obtain ⟨rfl, rfl, rfl, rfl⟩ := dq00p00 hr (by omega) (by omega) (by omega) (by omega)
                  obtain ⟨rfl, rfl, rfl, rfl⟩ := dq01p00 hy (by omega) (by omega) (by omega) (by omega) (by omega)
                  obtain ⟨rfl, rfl, rfl, rfl⟩ := dq00n hw (by omega) (by omega) (by omega)
                  refine ⟨?_, ?_, ?_, ?_, ?_, ?_⟩ <;> omega
            · obtain ⟨rfl, rfl, rfl, rfl⟩ := dq01n hq (by omega) (by omega) (by omega)
              obtain ⟨rfl, rfl, rfl, rfl⟩ := dq01n hx (by omega) (by omega) (by omega)
              rcases Int.le_total 0 (a - b - d - e + f) with k | k
              · rcases Int.le_total 0 (-a + b + d + e) with k | k
                · obtain ⟨rfl, rfl, rfl, rfl⟩ := dq01p10 hr (by omega) (by omega) (by omega) (by omega) (by omega)
                  obtain ⟨rfl, rfl, rfl, rfl⟩ := dq01p10 hy (by omega) (by omega) (by omega) (by omega) (by omega)
                  obtain ⟨rfl, rfl, rfl, rfl⟩ := dq00p00 hw (by omega) (by omega) (by omega) (by omega)
                  refine ⟨?_, ?_, ?_, ?_, ?_, ?_⟩ <;> omega
                · obtain ⟨rfl, rfl, rfl, rfl⟩ := dq01p00 hr (by omega) (by omega) (by omega) (by omega) (by omega)
                  obtain ⟨rfl, rfl, rfl, rfl⟩ := dq01p00 hy (by omega) (by omega) (by omega) (by omega) (by omega)
                  obtain ⟨rfl, rfl, rfl, rfl⟩ := dq00p00 hw (by omega) (by omega) (by omega) (by omega)
                  refine ⟨?_, ?_, ?_, ?_, ?_, ?_⟩ <;> omega
              · obtain ⟨rfl, rfl, rfl, rfl⟩ := dq01n hr (by omega) (by omega) (by omega)
                obtain ⟨rfl, rfl, rfl, rfl⟩ := dq01n hy (by omega) (by omega) (by omega)
                obtain ⟨rfl, rfl, rfl, rfl⟩ := dq00p00 hw (by omega) (by omega) (by omega) (by omega)
                refine ⟨?_, ?_, ?_, ?_, ?_, ?_⟩ <;> omega
          · rcases Int.le_total 0 (c - d - e) with k | k
            · rcases Int.le_total 0 (c - e) with k | k
              · obtain ⟨rfl, rfl, rfl, rfl⟩ := dq00p01 hq (by omega) (by omega) (by omega) (by omega)
                rcases Int.le_total 0 (c + d - e) with k | k
                · rcases Int.le_total 0 (a + d - e) with k | k
                  · obtain ⟨rfl, rfl, rfl, rfl⟩ := dq00p01 hx (by omega) (by omega) (by omega) (by omega)
                    obtain ⟨rfl, rfl, rfl, rfl⟩ := dq00p00 hr (by omega) (by omega) (by omega) (by omega)
                    obtain ⟨rfl, rfl, rfl, rfl⟩ := dq00p01 hy (by omega) (by omega) (by omega) (by omega)
                    obtain ⟨rfl, rfl, rfl, rfl⟩ := dq01p11 hw (by omega) (by omega) (by omega) (by omega) (by omega)
                    refine ⟨?_, ?_, ?_, ?_, ?_, ?_⟩ <;> omega
                  · obtain ⟨rfl, rfl, rfl, rfl⟩ := dq00p00 hx (by omega) (by omega) (by omega) (by omega)
                    obtain ⟨rfl, rfl, rfl, rfl⟩ := dq00p00 hr (by omega) (by omega) (by omega) (by omega)
                    obtain ⟨rfl, rfl, rfl, rfl⟩ := dq00p01 hy (by omega) (by omega) (by omega) (by omega)
                    obtain ⟨rfl, rfl, rfl, rfl⟩ := dq01p10 hw (by omega) (by omega) (by omega) (by omega) (by omega)
                    refine ⟨?_, ?_, ?_, ?_, ?_, ?_⟩ <;> omega
                · obtain ⟨rfl, rfl, rfl, rfl⟩ := dq00n hx (by omega) (by omega) (by omega)
                  obtain ⟨rfl, rfl, rfl, rfl⟩ := dq00p00 hr (by omega) (by omega) (by omega) (by omega)
                  obtain ⟨rfl, rfl, rfl, rfl⟩ := dq00p01 hy (by omega) (by omega) (by omega) (by omega)
                  obtain ⟨rfl, rfl, rfl, rfl⟩ := dq01n hw (by omega) (by omega) (by omega)
                  refine ⟨?_, ?_, ?_, ?_, ?_, ?_⟩ <;> omega
              · obtain ⟨rfl, rfl, rfl, rfl⟩ := dq00p00 hq (by omega) (by omega) (by omega) (by omega)
                obtain ⟨rfl, rfl, rfl, rfl⟩ := dq00n hx (by omega) (by omega) (by omega)
                obtain ⟨rfl, rfl, rfl, rfl⟩ := dq00p00 hr (by omega) (by omega) (by omega) (by omega)
                obtain ⟨rfl, rfl, rfl, rfl⟩ := dq00p00 hy (by omega) (by omega) (by omega) (by omega)
                obtain ⟨rfl, rfl, rfl, rfl⟩ := dq00n hw (by omega) (by omega) (by omega)
                refine ⟨?_, ?_, ?_, ?_, ?_, ?_⟩ <;> omega
            · obtain ⟨rfl, rfl, rfl, rfl⟩ := dq00n hq (by omega) (by omega) (by omega)
              obtain ⟨rfl, rfl, rfl, rfl⟩ := dq00n hx (by omega) (by omega) (by omega)
              rcases Int.le_total 0 (a - b - d - e) with k | k
              · obtain ⟨rfl, rfl, rfl, rfl⟩ := dq00p00 hr (by omega) (by omega) (by omega) (by omega)
                obtain ⟨rfl, rfl, rfl, rfl⟩ := dq00p00 hy (by omega) (by omega) (by omega) (by omega)
                obtain ⟨rfl, rfl, rfl, rfl⟩ := dq00p00 hw (by omega) (by omega) (by omega) (by omega)
                refine ⟨?_, ?_, ?_, ?_, ?_, ?_⟩ <;> omega
              · obtain ⟨rfl, rfl, rfl, rfl⟩ := dq00n hr (by omega) (by omega) (by omega)
                obtain ⟨rfl, rfl, rfl, rfl⟩ := dq00n hy (by omega) (by omega) (by omega)
                obtain ⟨rfl, rfl, rfl, rfl⟩ := dq00p00 hw (by omega) (by omega) (by omega) (by omega)
                refine ⟨?_, ?_, ?_, ?_, ?_, ?_⟩ <;> omega
      · obtain ⟨rfl, rfl, rfl, rfl⟩ := dq00n hp (by omega) (by omega) (by omega)
        rcases Int.le_total 0 (f) with k | k
        · rcases Int.le_total 0 (c - d - e + f) with k | k
          · rcases Int.le_total 0 (-c + d + e) with k | k
            · rcases Int.le_total 0 (c - e + f) with k | k
              · obtain ⟨rfl, rfl, rfl, rfl⟩ := dq01p11 hq (by omega) (by omega) (by omega) (by omega) (by omega)
                rcases Int.le_total 0 (a - b + d - e + f) with k | k
                · rcases Int.le_total 0 (a + d - e + f) with k | k
                  · obtain ⟨rfl, rfl, rfl, rfl⟩ := dq01p11 hx (by omega) (by omega) (by omega) (by omega) (by omega)
                    obtain ⟨rfl, rfl, rfl, rfl⟩ := dq01n hr (by omega) (by omega) (by omega)
                    obtain ⟨rfl, rfl, rfl, rfl⟩ := dq01p11 hy (by omega) (by omega) (by omega) (by omega) (by omega)
                    obtain ⟨rfl, rfl, rfl, rfl⟩ := dq01p11 hw (by omega) (by omega) (by omega) (by omega) (by omega)
                    refine ⟨?_, ?_, ?_, ?_, ?_, ?_⟩ <;> omega
                  · obtain ⟨rfl, rfl, rfl, rfl⟩ := dq01p10 hx (by omega) (by omega) (by omega) (by omega) (by omega)
                    obtain ⟨rfl, rfl, rfl, rfl⟩ := dq01n hr (by omega) (by omega) (by omega)
                    obtain ⟨rfl, rfl, rfl, rfl⟩ := dq01p11 hy (by omega) (by omega) (by omega) (by omega) (by omega)
                    obtain ⟨rfl, rfl, rfl, rfl⟩ := dq01p10 hw (by omega) (by omega) (by omega) (by omega) (by omega)
                    refine ⟨?_, ?_, ?_, ?_, ?_, ?_⟩ <;> omega
                · obtain ⟨rfl, rfl, rfl, rfl⟩ := dq01n hx (by omega) (by omega) (by omega)
                  obtain ⟨rfl, rfl, rfl, rfl⟩ := dq01n hr (by omega) (by omega) (by omega)
                  obtain ⟨rfl, rfl, rfl, rfl⟩ := dq01p11 hy (by omega) (by omega) (by omega) (by omega) (by omega)
                  obtain ⟨rfl, rfl, rfl, rfl⟩ := dq01n hw (by omega) (by omega) (by omega)
                  refine ⟨?_, ?_, ?_, ?_, ?_, ?_⟩ <;> omega
              · obtain ⟨rfl, rfl, rfl, rfl⟩ := dq01p10 hq (by omega) (by omega) (by omega) (by omega) (by omega)
                obtain ⟨rfl, rfl, rfl, rfl⟩ := dq01n hx (by omega) (by omega) (by omega)
                obtain ⟨rfl, rfl, rfl, rfl⟩ := dq01n hr (by omega) (by omega) (by omega)
                obtain ⟨rfl, rfl, rfl, rfl⟩ := dq01p10 hy (by omega) (by omega) (by omega) (by omega) (by omega)
                obtain ⟨rfl, rfl, rfl, rfl⟩ := dq00n hw (by omega) (by omega) (by omega)
                refine ⟨?_, ?_, ?_, ?_, ?_, ?_⟩ <;> omega
            · rcases Int.le_total 0 (c - e + f) with k | k
              · obtain ⟨rfl, rfl, rfl, rfl⟩ := dq01p01 hq (by omega) (by omega) (by omega) (by omega) (by omega)
                rcases Int.le_total 0 (a - b + d - e + f) with k | k
                · rcases Int.le_total 0 (-a + b - d + e) with k | k
                  · rcases Int.le_total 0 (a + d - e + f) with k | k
                    · obtain ⟨rfl, rfl, rfl, rfl⟩ := dq01p11 hx (by omega) (by omega) (by omega) (by omega) (by omega)
                      obtain ⟨rfl, rfl, rfl, rfl⟩ := dq00n hr (by omega) (by omega) (by omega)
                      obtain ⟨rfl, rfl, rfl, rfl⟩ := dq01p01 hy (by omega) (by omega) (by omega) (by omega) (by omega)
                      obtain ⟨rfl, rfl, rfl, rfl⟩ := dq01p11 hw (by omega) (by omega) (by omega) (by omega) (by omega)
                      refine ⟨?_, ?_, ?_, ?_, ?_, ?_⟩ <;> omega
                    · obtain ⟨rfl, rfl, rfl, rfl⟩ := dq01p10 hx (by omega) (by omega) (by omega) (by omega) (by omega)
                      obtain ⟨rfl, rfl, rfl, rfl⟩ := dq00n hr (by omega) (by omega) (by omega)
                      obtain ⟨rfl, rfl, rfl, rfl⟩ := dq01p01 hy (by omega) (by omega) (by omega) (by omega) (by omega)
                      obtain ⟨rfl, rfl, rfl, rfl⟩ := dq01p10 hw (by omega) (by omega) (by omega) (by omega) (by omega)
                      refine ⟨?_, ?_, ?_, ?_, ?_, ?_⟩ <;> omega
                  · rcases Int.le_total 0 (a + d - e + f) with k | k
                    · obtain ⟨rfl, rfl, rfl, rfl⟩ := dq01p01 hx (by omega) (by omega) (by omega) (by omega) (by omega)
                      obtain ⟨rfl, rfl, rfl, rfl⟩ := dq00n hr (by omega) (by omega) (by omega)
                      obtain ⟨rfl, rfl, rfl, rfl⟩ := dq00p01 hy (by omega) (by omega) (by omega) (by omega)
                      obtain ⟨rfl, rfl, rfl, rfl⟩ := dq01p11 hw (by omega) (by omega) (by omega) (by omega) (by omega)
                      refine ⟨?_, ?_, ?_, ?_, ?_, ?_⟩ <;> omega
                    · obtain ⟨rfl, rfl, rfl, rfl⟩ := dq01p00 hx (by omega) (by omega) (by omega) (by omega) (by omega)
                      obtain ⟨rfl, rfl, rfl, rfl⟩ := dq00n hr (by omega) (by omega) (by omega)
                      obtain ⟨rfl, rfl, rfl, rfl⟩ := dq00p01 hy (by omega) (by omega) (by omega) (by omega)
                      obtain ⟨rfl, rfl, rfl, rfl⟩ := dq01p10 hw (by omega) (by omega) (by omega) (by omega) (by omega)
                      refine ⟨?_, ?_, ?_, ?_, ?_, ?_⟩ <;> omega
                · obtain ⟨rfl, rfl, rfl, rfl⟩ := dq01n hx (by omega) (by omega) (by omega)
                  obtain ⟨rfl, rfl, rfl, rfl⟩ := dq00n hr (by omega) (by omega) (by omega)
                  obtain ⟨rfl, rfl, rfl, rfl⟩ := dq01p01 hy (by omega) (by omega) (by omega) (by omega) (by omega)
                  obtain ⟨rfl, rfl, rfl, rfl⟩ := dq01n hw (by omega) (by omega) (by omega)
                  refine ⟨?_, ?_, ?_, ?_, ?_, ?_⟩ <;> omega
              · obtain ⟨rfl, rfl, rfl, rfl⟩ := dq01p00 hq (by omega) (by omega) (by omega) (by omega) (by omega)
                obtain ⟨rfl, rfl, rfl, rfl⟩ := dq01n hx (by omega) (by omega) (by omega)
                obtain ⟨rfl, rfl, rfl, rfl⟩ := dq00n hr (by omega) (by omega) (by omega)
                obtain ⟨rfl, rfl, rfl, rfl⟩ := dq01p00 hy (by omega) (by omega) (by omega) (by omega) (by omega)
                obtain ⟨rfl, rfl, rfl, rfl⟩ := dq00n hw (by omega) (by omega) (by omega)
                refine ⟨?_, ?_, ?_, ?_, ?_, ?_⟩ <;> omega
          · obtain ⟨rfl, rfl, rfl, rfl⟩ := dq01n hq (by omega) (by omega) (by omega)
            obtain ⟨rfl, rfl, rfl, rfl⟩ := dq01n hx (by omega) (by omega) (by omega)
            obtain ⟨rfl, rfl, rfl, rfl⟩ := dq01n hr (by omega) (by omega) (by omega)
            obtain ⟨rfl, rfl, rfl, rfl⟩ := dq01n hy (by omega) (by omega) (by omega)
            obtain ⟨rfl, rfl, rfl, rfl⟩ := dq00n hw (by omega) (by omega) (by omega)
            refine ⟨?_, ?_, ?_, ?_, ?_, ?_⟩ <;> omega
        · rcases Int.le_total 0 (c - d - e) with k | k
          · rcases Int.le_total 0 (c - e) with k | k
            · obtain ⟨rfl, rfl, rfl, rfl⟩ := dq00p01 hq (by omega) (by omega) (by omega) (by omega)
              rcases Int.le_total 0 (a - b + d - e) with k | k
              · rcases Int.le_total 0 (a + d - e) with k | k
                · obtain ⟨rfl, rfl, rfl, rfl⟩ := dq00p01 hx (by omega) (by omega) (by omega) (by omega)
                  obtain ⟨rfl, rfl, rfl, rfl⟩ := dq00n hr (by omega) (by omega) (by omega)
                  obtain ⟨rfl, rfl, rfl, rfl⟩ := dq00p01 hy (by omega) (by omega) (by omega) (by omega)
                  obtain ⟨rfl, rfl, rfl, rfl⟩ := dq01p11 hw (by omega) (by omega) (by omega) (by omega) (by omega)
                  refine ⟨?_, ?_, ?_, ?_, ?_, ?_⟩ <;> omega
                · obtain ⟨rfl, rfl, rfl, rfl⟩ := dq00p00 hx (by omega) (by omega) (by omega) (by omega)
                  obtain ⟨rfl, rfl, rfl, rfl⟩ := dq00n hr (by omega) (by omega) (by omega)
                  obtain ⟨rfl, rfl, rfl, rfl⟩ := dq00p01 hy (by omega) (by omega) (by omega) (by omega)
                  obtain ⟨rfl, rfl, rfl, rfl⟩ := dq01p10 hw (by omega) (by omega) (by omega) (by omega) (by omega)
                  refine ⟨?_, ?_, ?_, ?_, ?_, ?_⟩ <;> omega
              · obtain ⟨rfl, rfl, rfl, rfl⟩ := dq00n hx (by omega) (by omega) (by omega)
                obtain ⟨rfl, rfl, rfl, rfl⟩ := dq00n hr (by omega) (by omega) (by omega)
                obtain ⟨rfl, rfl, rfl, rfl⟩ := dq00p01 hy (by omega) (by omega) (by omega) (by omega)
                obtain ⟨rfl, rfl, rfl, rfl⟩ := dq01n hw (by omega) (by omega) (by omega)
                refine ⟨?_, ?_, ?_, ?_, ?_, ?_⟩ <;> omega
            · obtain ⟨rfl, rfl, rfl, rfl⟩ := dq00p00 hq (by omega) (by omega) (by omega) (by omega)
              obtain ⟨rfl, rfl, rfl, rfl⟩ := dq00n hx (by omega) (by omega) (by omega)
              obtain ⟨rfl, rfl, rfl, rfl⟩ := dq00n hr (by omega) (by omega) (by omega)
              obtain ⟨rfl, rfl, rfl, rfl⟩ := dq00p00 hy (by omega) (by omega) (by omega) (by omega)
              obtain ⟨rfl, rfl, rfl, rfl⟩ := dq00n hw (by omega) (by omega) (by omega)
              refine ⟨?_, ?_, ?_, ?_, ?_, ?_⟩ <;> omega
          · obtain ⟨rfl, rfl, rfl, rfl⟩ := dq00n hq (by omega) (by omega) (by omega)
            obtain ⟨rfl, rfl, rfl, rfl⟩ := dq00n hx (by omega) (by omega) (by omega)
            obtain ⟨rfl, rfl, rfl, rfl⟩ := dq00n hr (by omega) (by omega) (by omega)
            obtain ⟨rfl, rfl, rfl, rfl⟩ := dq00n hy (by omega) (by omega) (by omega)
            obtain ⟨rfl, rfl, rfl, rfl⟩ := dq00n hw (by omega) (by omega) (by omega)
            refine ⟨?_, ?_, ?_, ?_, ?_, ?_⟩ <;> omega
end Go.Proofs.Ytnmklkjlcpgjmaa

namespace Go.Proofs.Ytnmklkjlcpgjmaa
open Go.RowKit Go.Sl

/-! ### Braid words that are equal by the relations -/
def LtB (n : Nat) (x : Int) : Prop := x ≠ 0 ∧ x.natAbs < n
inductive BE (n : Nat) : List Int → List Int → Prop
  | refl (u : List Int) : BE n u u
  | symm {u v : List Int} (h : BE n u v) : BE n v u
  | trans {u v w : List Int} (h : BE n u v) (k : BE n v w) : BE n u w
  | ctx (a b : List Int) {u v : List Int} (h : BE n u v) : BE n (a ++ u ++ b) (a ++ v ++ b)
  | cancel {x : Int} (h : LtB n x) : BE n [x, -x] []
  | far {x y : Int} (hx : LtB n x) (hy : LtB n y) (h : x.natAbs + 1 < y.natAbs ∨ y.natAbs + 1 < x.natAbs) : BE n [x, y] [y, x]
  | braid {i : Nat} (h0 : 0 < i) (h : i + 1 < n) : BE n [(i : Int), ((i + 1 : Nat) : Int), (i : Int)] [((i + 1 : Nat) : Int), (i : Int), ((i + 1 : Nat) : Int)]
namespace BE
variable {n : Nat} {u v w a b : List Int}
theorem pre (a : List Int) (h : BE n u v) : BE n (a ++ u) (a ++ v) := by simpa using ctx a [] h
theorem post (b : List Int) (h : BE n u v) : BE n (u ++ b) (v ++ b) := by simpa using ctx [] b h
theorem app (h : BE n u v) (k : BE n a b) : BE n (u ++ a) (v ++ b) := (h.post a).trans (k.pre v)
theorem lt (h : BE n u v) : (∀ x ∈ u, LtB n x) ↔ ∀ x ∈ v, LtB n x := by
  induction h with
  | refl => exact Iff.rfl
  | symm _ ih => exact ih.symm
  | trans _ _ ih1 ih2 => exact ih1.trans ih2
  | ctx a b _ ih =>
    constructor
    all_goals
      intro h x hx
      simp only [List.mem_append] at hx h
      rcases hx with (hx | hx) | hx
      · exact h x (.inl (.inl hx))
      · first
        | exact ih.1 (fun y hy => h y (.inl (.inr hy))) x hx
        | exact ih.2 (fun y hy => h y (.inl (.inr hy))) x hx
      · exact h x (.inr hx)
  | cancel h => exact ⟨fun _ x hx => by simp at hx, fun _ x hx => by
      simp only [List.mem_cons, List.not_mem_nil, or_false] at hx
      rcases hx with rfl | rfl
      · exact h
      · exact ⟨by have := h.1; omega, by have := h.2; omega⟩⟩
  | far hx hy h => exact ⟨fun h x hx => h x (by simp only [List.mem_cons, List.not_mem_nil, or_false] at hx ⊢; exact hx.symm), fun h x hx => h x (by simp only [List.mem_cons, List.not_mem_nil, or_false] at hx ⊢; exact hx.symm)⟩
  | @braid i h0 h =>
    have h1 : LtB n (i : Int) := ⟨by omega, by omega⟩
    have h2 : LtB n ((i + 1 : Nat) : Int) := ⟨by omega, by omega⟩
    constructor
    all_goals
      intro _ x hx
      simp only [List.mem_cons, List.not_mem_nil, or_false] at hx
      rcases hx with rfl | rfl | rfl <;> assumption
theorem rev (h : BE n u v) : BE n u.reverse v.reverse := by
  induction h with
  | refl => exact refl _
  | symm _ ih => exact ih.symm
  | trans _ _ ih1 ih2 => exact ih1.trans ih2
  | ctx a b _ ih =>
    simp only [List.reverse_append, List.append_assoc]
    have := ctx b.reverse a.reverse ih
    simpa using this
  | @cancel x h =>
    have := cancel (n := n) (x := -x) ⟨by have := h.1; omega, by have := h.2; omega⟩
    simpa using this
  | far hx hy h => simpa using far hy hx h.symm
  | braid h0 h => simpa using braid h0 h
end BE

/-! ### The action -/
abbrev Cds := Nat → Int × Int
def dactQ (v : Cds) (i : Nat) (q : Int × Int × Int × Int) : Cds := fun k => if k = i then (q.1, q.2.1) else if k = i + 1 then (q.2.2.1, q.2.2.2) else v k
def dact (v : Cds) (x : Int) : Cds := dactQ v x.natAbs (if 0 < x then dynP (v x.natAbs).1 (v x.natAbs).2 (v (x.natAbs + 1)).1 (v (x.natAbs + 1)).2 else dynN (v x.natAbs).1 (v x.natAbs).2 (v (x.natAbs + 1)).1 (v (x.natAbs + 1)).2)
def dactW (v : Cds) (w : List Int) : Cds := w.foldl dact v
theorem dactW_append (v : Cds) (a b : List Int) : dactW v (a ++ b) = dactW (dactW v a) b := by simp [dactW]
theorem dactW_cons (v : Cds) (x : Int) (b : List Int) : dactW v (x :: b) = dactW (dact v x) b := rfl
theorem dact_other (v : Cds) (x : Int) {k : Nat} (h1 : k ≠ x.natAbs) (h2 : k ≠ x.natAbs + 1) : dact v x k = v k := by unfold dact dactQ; rw [if_neg h1, if_neg h2]
theorem dact_cancel (v : Cds) {x : Int} (h : x ≠ 0) : dact (dact v x) (-x) = v := by
  funext k
  by_cases h1 : k = x.natAbs
  · subst h1
    by_cases hp : 0 < x
    · have := dyn_pn (v x.natAbs).1 (v x.natAbs).2 (v (x.natAbs + 1)).1 (v (x.natAbs + 1)).2
      dsimp only at this
      unfold dact dactQ
      simp only [Int.natAbs_neg, if_true, hp, show ¬ 0 < -x by omega, if_false, Nat.succ_ne_self, this]
    · have := dyn_np (v x.natAbs).1 (v x.natAbs).2 (v (x.natAbs + 1)).1 (v (x.natAbs + 1)).2
      dsimp only at this
      unfold dact dactQ
      simp only [Int.natAbs_neg, if_true, hp, show 0 < -x by omega, if_false, Nat.succ_ne_self, this]
  · by_cases h2 : k = x.natAbs + 1
    · subst h2
      by_cases hp : 0 < x
      · have := dyn_pn (v x.natAbs).1 (v x.natAbs).2 (v (x.natAbs + 1)).1 (v (x.natAbs + 1)).2
        dsimp only at this
        unfold dact dactQ
        simp only [Int.natAbs_neg, if_true, hp, show ¬ 0 < -x by omega, if_false, Nat.succ_ne_self, this]
      · have := dyn_np (v x.natAbs).1 (v x.natAbs).2 (v (x.natAbs + 1)).1 (v (x.natAbs + 1)).2
        dsimp only at this
        unfold dact dactQ
        simp only [Int.natAbs_neg, if_true, hp, show 0 < -x by omega, if_false, Nat.succ_ne_self, this]
    · rw [dact_other _ _ (by rw [Int.natAbs_neg]; exact h1) (by rw [Int.natAbs_neg]; exact h2), dact_other _ _ h1 h2]
theorem dact_far (v : Cds) {x y : Int} (h : x.natAbs + 1 < y.natAbs ∨ y.natAbs + 1 < x.natAbs) : dact (dact v x) y = dact (dact v y) x := by
  have e1 : dact v x y.natAbs = v y.natAbs := dact_other _ _ (by omega) (by omega)
  have e2 : dact v x (y.natAbs + 1) = v (y.natAbs + 1) := dact_other _ _ (by omega) (by omega)
  have e3 : dact v y x.natAbs = v x.natAbs := dact_other _ _ (by omega) (by omega)
  have e4 : dact v y (x.natAbs + 1) = v (x.natAbs + 1) := dact_other _ _ (by omega) (by omega)
  funext k
  by_cases hk : k = y.natAbs ∨ k = y.natAbs + 1
  · rw [dact_other (dact v y) x (k := k) (by omega) (by omega)]
    unfold dact at e1 e2 ⊢
    rw [e1, e2]
    unfold dactQ
    rcases hk with rfl | rfl
    · simp
    · simp
  · rw [dact_other (dact v x) y (k := k) (by omega) (by omega)]
    by_cases hx : k = x.natAbs ∨ k = x.natAbs + 1
    · unfold dact at e3 e4 ⊢
      rw [e3, e4]
      unfold dactQ
      rcases hx with rfl | rfl
      · simp
      · simp
    · rw [dact_other _ _ (by omega) (by omega), dact_other _ _ (by omega) (by omega), dact_other _ _ (by omega) (by omega)]
theorem dact_pos (v : Cds) {i : Nat} (h : 0 < i) {a b c d a' b' c' d' : Int} (h1 : v i = (a, b)) (h2 : v (i + 1) = (c, d)) (hq : dynP a b c d = (a', b', c', d')) : dact v (i : Int) i = (a', b') ∧ dact v (i : Int) (i + 1) = (c', d') := by
  unfold dact dactQ
  rw [Int.natAbs_natCast, h1, h2, hq]
  simp [h]
theorem quad (q : Int × Int × Int × Int) : ∃ a b c d, q = (a, b, c, d) := ⟨q.1, q.2.1, q.2.2.1, q.2.2.2, rfl⟩
theorem dact_braid (v : Cds) {i : Nat} (h : 0 < i) : dactW v [(i : Int), ((i + 1 : Nat) : Int), (i : Int)] = dactW v [((i + 1 : Nat) : Int), (i : Int), ((i + 1 : Nat) : Int)] := by
  obtain ⟨a, b, h1⟩ : ∃ a b, v i = (a, b) := ⟨_, _, rfl⟩
  obtain ⟨c, d, h2⟩ : ∃ c d, v (i + 1) = (c, d) := ⟨_, _, rfl⟩
  obtain ⟨e, f, h3⟩ : ∃ e f, v (i + 1 + 1) = (e, f) := ⟨_, _, rfl⟩
  obtain ⟨a1, b1, c1, d1, hp⟩ := quad (dynP a b c d)
  obtain ⟨c2, d2, e2, f2, hx⟩ := quad (dynP c1 d1 e f)
  obtain ⟨a3, b3, c3, d3, hy⟩ := quad (dynP a1 b1 c2 d2)
  obtain ⟨C1, D1, E1, F1, hq⟩ := quad (dynP c d e f)
  obtain ⟨A2, B2, C2, D2, hr⟩ := quad (dynP a b C1 D1)
  obtain ⟨C3, D3, E3, F3, hw⟩ := quad (dynP C2 D2 E1 F1)
  obtain ⟨rfl, rfl, rfl, rfl, rfl, rfl⟩ := dyn_all hp hq hx hr hy hw
  have o := fun (v : Cds) (j k : Nat) (hk1 : k ≠ j) (hk2 : k ≠ j + 1) => dact_other v (j : Int) (k := k) (by simpa using hk1) (by simpa using hk2)
  have l1 := dact_pos v h h1 h2 hp
  have l2 := dact_pos (dact v (i : Int)) (i := i + 1) (by omega) l1.2 ((o v i _ (by omega) (by omega)).trans h3) hx
  have l3 := dact_pos (dact (dact v (i : Int)) ((i + 1 : Nat) : Int)) h ((o _ (i + 1) _ (by omega) (by omega)).trans l1.1) l2.1 hy
  have r1 := dact_pos v (i := i + 1) (by omega) h2 h3 hq
  have r2 := dact_pos (dact v ((i + 1 : Nat) : Int)) h ((o v (i + 1) _ (by omega) (by omega)).trans h1) r1.1 hr
  have r3 := dact_pos (dact (dact v ((i + 1 : Nat) : Int)) (i : Int)) (i := i + 1) (by omega) r2.2 ((o _ i _ (by omega) (by omega)).trans r1.2) hw
  show dact (dact (dact v _) _) _ = dact (dact (dact v _) _) _
  funext k
  by_cases k1 : k = i
  · subst k1
    rw [l3.1, o _ (k + 1) k (by omega) (by omega), r2.1]
  · by_cases k2 : k = i + 1
    · subst k2
      rw [l3.2, r3.1]
    · by_cases k3 : k = i + 1 + 1
      · subst k3
        rw [o _ i _ (by omega) (by omega), l2.2, r3.2]
      · rw [o _ i k (by omega) (by omega), o _ (i + 1) k (by omega) (by omega), o _ i k (by omega) (by omega), o _ (i + 1) k (by omega) (by omega), o _ i k (by omega) (by omega), o _ (i + 1) k (by omega) (by omega)]
theorem BE.act {n : Nat} {u v : List Int} (h : BE n u v) : ∀ c : Cds, dactW c u = dactW c v := by
  induction h with
  | refl => exact fun _ => rfl
  | symm _ ih => exact fun c => (ih c).symm
  | trans _ _ ih1 ih2 => exact fun c => (ih1 c).trans (ih2 c)
  | ctx a b _ ih => exact fun c => by rw [dactW_append, dactW_append, dactW_append, dactW_append, ih]
  | cancel h => exact fun c => dact_cancel c h.1
  | far hx hy h => exact fun c => dact_far c h
  | braid h0 h => exact fun c => dact_braid c h0

/-! ### Words with a sign -/
/-- Letters of index m or more; those of index m have the sign s. -/
def Mono (m : Nat) (s : Int) (w : List Int) : Prop := ∀ x ∈ w, m ≤ x.natAbs ∧ (x.natAbs = m → 0 < s * x)
/-- .. and there is one of index m. -/
def SPos (m : Nat) (s : Int) (w : List Int) : Prop := Mono m s w ∧ ∃ x ∈ w, x.natAbs = m
def SFree (m : Nat) (w : List Int) : Prop := ∀ x ∈ w, m < x.natAbs
theorem dact_above (c : Cds) {x : Int} {m : Nat} (h : m < x.natAbs) : dact c x m = c m := dact_other _ _ (by omega) (by omega)
theorem free_keep {m : Nat} (w : List Int) : ∀ c : Cds, SFree m w → dactW c w m = c m := by
  induction w with
  | nil => exact fun _ _ => rfl
  | cons x w ih =>
    intro c h
    rw [dactW_cons, ih _ fun y hy => h y (by simp [hy]), dact_above _ (h x (by simp))]
theorem pos_rise (c : Cds) {m : Nat} (hm : 0 < m) : ((c m) = (0, 1) ∨ 0 < (c m).1) → 0 < (dact c (m : Int) m).1 := by
  obtain ⟨a, b, h1⟩ : ∃ a b, c m = (a, b) := ⟨_, _, rfl⟩
  obtain ⟨x, y, h2⟩ : ∃ x y, c (m + 1) = (x, y) := ⟨_, _, rfl⟩
  obtain ⟨a', b', c', d', hq⟩ := quad (dynP a b x y)
  rw [(dact_pos c hm h1 h2 hq).1, h1]
  simp only [dynP, Prod.mk.injEq] at hq
  intro h
  rcases h with h | h
  · obtain ⟨rfl, rfl⟩ := Prod.mk.inj h
    show 0 < a'
    omega
  · have h : 0 < a := h
    show 0 < a'
    omega
theorem spos_rise {m : Nat} (hm : 0 < m) (w : List Int) : ∀ c : Cds, (c m = (0, 1) ∨ 0 < (c m).1) → Mono m 1 w → ((∃ x ∈ w, x.natAbs = m) ∨ 0 < (c m).1) → 0 < (dactW c w m).1 := by
  induction w with
  | nil => exact fun c _ _ h => h.elim (fun ⟨x, hx, _⟩ => by simp at hx) id
  | cons x w ih =>
    intro c hc hM hx
    have h1 := hM x (by simp)
    have hM2 : Mono m 1 w := fun y hy => hM y (by simp [hy])
    rw [dactW_cons]
    by_cases e : x.natAbs = m
    · have hp := h1.2 e
      obtain rfl : x = (m : Int) := by omega
      have := pos_rise c hm hc
      exact ih _ (.inr this) hM2 (.inr this)
    · have hk := dact_above c (x := x) (m := m) (by omega)
      refine ih _ (by rw [hk]; exact hc) hM2 ?_
      rw [hk]
      rcases hx with ⟨y, hy, hym⟩ | hx
      · rcases List.mem_cons.1 hy with rfl | hy
        · exact absurd hym e
        · exact .inl ⟨y, hy, hym⟩
      · exact .inr hx
/-- A word with a positive sign is not equal to one without letters of this index. -/
theorem spos_free {n m : Nat} (hm : 0 < m) {u v : List Int} (hu : SPos m 1 u) (hv : SFree m v) : ¬ BE n u v := fun h => by
  have h1 := spos_rise hm u (fun _ => (0, 1)) (.inl rfl) hu.1 (.inl hu.2)
  rw [h.act, free_keep v _ hv] at h1
  exact absurd h1 (by decide)
end Go.Proofs.Ytnmklkjlcpgjmaa

namespace Go.Proofs.Ytnmklkjlcpgjmaa
open Go.RowKit Go.Sl

def I64 (x : Int) : Prop := -9223372036854775808 ≤ x ∧ x ≤ 9223372036854775807
theorem nth_mem {xs : List Int} {k : Nat} (h : k < xs.length) : nth xs k ∈ xs := by rw [nth_lt h]; exact List.getElem_mem h

theorem Below.chain {a b c : World} (h : Below a.heap.size a b) (k : Below b.heap.size b c) : Below a.heap.size a c := h.trans (k.mono h.size)
theorem Below.drawn {w : World} (q : Nat) : Below w.heap.size w (w.drewN q) := ⟨rfl, rfl, rfl, Nat.le_refl _, fun _ _ => rfl⟩

end Go.Proofs.Ytnmklkjlcpgjmaa

namespace Go.Proofs.Ytnmklkjlcpgjmaa
open Go.RowKit Go.Sl

def iota (n : Nat) : List Int := (List.range n).map Int.ofNat
theorem iota_length (n : Nat) : (iota n).length = n := by simp [iota]
theorem nth_iota (n k : Nat) (h : k < n) : nth (iota n) k = k := by rw [nth_lt (by rw [iota_length]; exact h)]; simp [iota]
theorem mem_iota {n : Nat} {x : Int} : x ∈ iota n ↔ 0 ≤ x ∧ x < n := by
  simp only [iota, List.mem_map, List.mem_range]
  constructor
  · rintro ⟨a, h, rfl⟩; simp; omega
  · rintro ⟨h1, h2⟩; exact ⟨x.toNat, by omega, by simp; omega⟩
theorem iota_nodup (n : Nat) : (iota n).Nodup := by
  unfold iota
  rw [List.nodup_iff_pairwise_ne] at *
  rw [List.pairwise_map]
  refine List.Pairwise.imp ?_ List.nodup_range
  intro a b h e
  exact h (Int.ofNat.inj e)
theorem ext_nth {xs ys : List Int} (hl : xs.length = ys.length) (h : ∀ k, k < xs.length → nth xs k = nth ys k) : xs = ys := by
  apply List.ext_getElem hl
  intro j h1 h2
  have := h j h1
  rwa [nth_lt h1, nth_lt h2] at this

def thenL (a b : List Int) : List Int := a.map fun x => nth b x.toNat
theorem thenL_length (a b : List Int) : (thenL a b).length = a.length := by simp [thenL]
theorem nth_thenL (a b : List Int) (k : Nat) (h : k < a.length) : nth (thenL a b) k = nth b (nth a k).toNat := by
  rw [nth_lt (by rw [thenL_length]; exact h)]; simp [thenL, nth_lt h]

/-- A permutation of small degree, as a list. -/
structure IsPerm (xs : List Int) : Prop where
  perm : xs.Perm (iota xs.length)
  small : xs.length ≤ 1000
theorem IsPerm.range {xs : List Int} (h : IsPerm xs) : ∀ x ∈ xs, 0 ≤ x ∧ x < xs.length := fun _ hx => mem_iota.1 (h.perm.mem_iff.1 hx)
theorem IsPerm.nodup {xs : List Int} (h : IsPerm xs) : xs.Nodup := h.perm.nodup_iff.2 (iota_nodup _)
theorem IsPerm.hit {xs : List Int} (h : IsPerm xs) {k : Nat} (hk : k < xs.length) : ∃ j, j < xs.length ∧ nth xs j = k := by
  have : (k : Int) ∈ xs := h.perm.mem_iff.2 (mem_iota.2 ⟨by omega, by omega⟩)
  obtain ⟨j, hj, he⟩ := List.getElem_of_mem this
  exact ⟨j, hj, by rw [nth_lt hj]; exact he⟩
theorem isPerm_iota {n : Nat} (h : n ≤ 1000) : IsPerm (iota n) := ⟨by rw [iota_length], by rw [iota_length]; exact h⟩

theorem thenL_iota (b : List Int) : thenL (iota b.length) b = b := by
  apply ext_nth (by rw [thenL_length, iota_length])
  intro k hk
  rw [thenL_length, iota_length] at hk
  rw [nth_thenL _ _ _ (by rw [iota_length]; exact hk), nth_iota _ _ hk]; simp
theorem iota_thenL {a : List Int} (h : ∀ x ∈ a, 0 ≤ x ∧ x < a.length) : thenL a (iota a.length) = a := by
  apply ext_nth (by rw [thenL_length])
  intro k hk
  rw [thenL_length] at hk
  have := h _ (nth_mem hk)
  rw [nth_thenL _ _ _ hk, nth_iota _ _ (by omega)]; omega
theorem IsPerm.then {a b : List Int} (ha : IsPerm a) (hb : IsPerm b) (hl : a.length = b.length) : IsPerm (thenL a b) := by
  refine ⟨?_, by rw [thenL_length]; exact ha.small⟩
  rw [thenL_length, hl]
  have h1 : (thenL a b).Perm (thenL (iota a.length) b) := ha.perm.map _
  rw [hl, thenL_iota] at h1
  exact h1.trans hb.perm

/-- The first k numbers of a permutation written at their places. -/
def backTo (xs : List Int) (k : Nat) : List Int := (List.range k).foldl (fun acc i => acc.set (nth xs i).toNat i) (List.replicate xs.length 0)
def backL (xs : List Int) : List Int := backTo xs xs.length
theorem backTo_succ (xs : List Int) (k : Nat) : backTo xs (k + 1) = (backTo xs k).set (nth xs k).toNat k := by
  simp [backTo, List.range_succ]
theorem backTo_length (xs : List Int) (k : Nat) : (backTo xs k).length = xs.length := by
  induction k with
  | zero => simp [backTo]
  | succ k ih => rw [backTo_succ]; simp [ih]
theorem backL_length (xs : List Int) : (backL xs).length = xs.length := backTo_length _ _
theorem nth_set_same {xs : List Int} {k : Nat} (x : Int) (h : k < xs.length) : nth (xs.set k x) k = x := by
  rw [nth_lt (by simpa using h)]; simp
theorem nth_set_other {xs : List Int} {k j : Nat} (x : Int) (h : k ≠ j) : nth (xs.set k x) j = nth xs j := by
  simp [nth, List.getElem?_set_ne h]
theorem IsPerm.inj {xs : List Int} (h : IsPerm xs) {i j : Nat} (hi : i < xs.length) (hj : j < xs.length) (e : nth xs i = nth xs j) : i = j := by
  rw [nth_lt hi, nth_lt hj] at e
  exact (List.getElem_inj h.nodup).1 e
theorem backTo_hit {xs : List Int} (h : IsPerm xs) (k : Nat) (hk : k ≤ xs.length) : ∀ j, j < k → nth (backTo xs k) (nth xs j).toNat = j := by
  induction k with
  | zero => intro j hj; omega
  | succ k ih =>
    intro j hj
    have hrk := h.range _ (nth_mem (xs := xs) (k := k) (by omega))
    rw [backTo_succ]
    rcases Nat.lt_or_ge j k with h1 | h1
    · have hrj := h.range _ (nth_mem (xs := xs) (k := j) (by omega))
      rw [nth_set_other _ (fun e => by
        have := h.inj (i := k) (j := j) (by omega) (by omega) (by omega)
        omega)]
      exact ih (by omega) j h1
    · have e : j = k := by omega
      subst e
      rw [nth_set_same _ (by rw [backTo_length]; omega)]
theorem then_back {xs : List Int} (h : IsPerm xs) : thenL xs (backL xs) = iota xs.length := by
  apply ext_nth (by rw [thenL_length, iota_length])
  intro k hk
  rw [thenL_length] at hk
  rw [nth_thenL _ _ _ hk, nth_iota _ _ hk]
  exact backTo_hit h _ (Nat.le_refl _) k hk
theorem IsPerm.back {xs : List Int} (h : IsPerm xs) : IsPerm (backL xs) := by
  refine ⟨?_, by rw [backL_length]; exact h.small⟩
  have h1 : (thenL xs (backL xs)).Perm (thenL (iota xs.length) (backL xs)) := h.perm.map _
  rw [then_back h] at h1
  have h2 := thenL_iota (backL xs)
  rw [backL_length] at h2 ⊢
  rw [h2] at h1
  exact h1.symm

/-! ### The maker of permutations -/
end Go.Proofs.Ytnmklkjlcpgjmaa

namespace Go.Proofs.Ytnmklkjlcpgjmaa
open Go.RowKit Go.Sl

/-- Two neighbours exchanged. -/
def swapAt (l : List Int) (i : Nat) : List Int := (l.set i (nth l (i + 1))).set (i + 1) (nth l i)
theorem swapAt_length (l : List Int) (i : Nat) : (swapAt l i).length = l.length := by simp [swapAt]
theorem nth_map (f : Int → Int) (l : List Int) (i : Nat) (h : i < l.length) : nth (l.map f) i = f (nth l i) := by
  rw [nth_lt (by simpa using h), nth_lt h, List.getElem_map]
theorem swapAt_map (f : Int → Int) (l : List Int) (i : Nat) (h : i + 1 < l.length) : swapAt (l.map f) i = (swapAt l i).map f := by
  unfold swapAt
  rw [nth_map f l (i + 1) h, nth_map f l i (by omega), List.map_set, List.map_set]
theorem swapAt_cons (a : Int) (l : List Int) (i : Nat) : swapAt (a :: l) (i + 1) = a :: swapAt l i := by simp [swapAt, nth]
theorem swapAt_perm (l : List Int) : ∀ i, i + 1 < l.length → (swapAt l i).Perm l := by
  induction l with
  | nil => intro i h; simp at h
  | cons a l ih =>
    intro i h
    cases i with
    | zero =>
      cases l with
      | nil => simp at h
      | cons b l => simp only [swapAt, nth]; simp; exact List.Perm.swap _ _ _
    | succ i =>
      rw [swapAt_cons]
      exact (ih i (by simpa using h)).cons a
theorem nth_swapAt (l : List Int) (i j : Nat) (h : i + 1 < l.length) : nth (swapAt l i) j = if j = i + 1 then nth l i else if j = i then nth l (i + 1) else nth l j := by
  unfold swapAt
  by_cases h1 : j = i + 1
  · subst h1; rw [if_pos rfl, nth_set_same _ (by simpa using h)]
  · rw [if_neg h1, nth_set_other _ (by omega)]
    by_cases h2 : j = i
    · subst h2; rw [if_pos rfl, nth_set_same _ (by omega)]
    · rw [if_neg h2, nth_set_other _ (by omega)]
end Go.Proofs.Ytnmklkjlcpgjmaa

namespace Go.Proofs.Ytnmklkjlcpgjmaa
open Go.RowKit Go.Sl

def fact : Nat → Nat
  | 0 => 1
  | n + 1 => (n + 1) * fact n
/-- How many of the numbers are smaller. -/
def less (xs : List Int) (x : Int) : Nat := (xs.filter fun y => decide (y < x)).length
/-- Strictly ascending. -/
def Asc (l : List Int) : Prop := l.Pairwise (· < ·)
theorem asc_iota (n : Nat) : Asc (iota n) := by
  unfold Asc iota
  rw [List.pairwise_map]
  refine List.Pairwise.imp ?_ List.pairwise_lt_range
  intro a b h
  simpa using h
theorem Asc.erase {l : List Int} (h : Asc l) (i : Nat) : Asc (l.eraseIdx i) := List.Pairwise.sublist (List.eraseIdx_sublist l i) h
theorem Asc.lt {l : List Int} (h : Asc l) {i j : Nat} (hij : i < j) (hj : j < l.length) : nth l i < nth l j := by
  rw [nth_lt hj, nth_lt (by omega)]
  exact List.pairwise_iff_getElem.1 h i j (by omega) hj hij
theorem less_perm {a b : List Int} (h : a.Perm b) (x : Int) : less a x = less b x := (h.filter _).length_eq
end Go.Proofs.Ytnmklkjlcpgjmaa

namespace Go.Proofs.Ytnmklkjlcpgjmaa
open Go.RowKit Go.Sl

/-- The values i and i + 1 exchanged. -/
def swV (i : Nat) (x : Int) : Int := if x = i then (i : Int) + 1 else if x = (i : Int) + 1 then i else x
def swapV (a : List Int) (i : Nat) : List Int := a.map (swV i)
theorem swapV_length (a : List Int) (i : Nat) : (swapV a i).length = a.length := by simp [swapV]
theorem swV_swV (i : Nat) (x : Int) : swV i (swV i x) = x := by unfold swV; grind
theorem swapV_swapV (a : List Int) (i : Nat) : swapV (swapV a i) i = a := by
  unfold swapV
  have h : ∀ x ∈ a, (swV i ∘ swV i) x = x := fun x _ => swV_swV i x
  rw [List.map_map, List.map_congr_left h, List.map_id']
theorem nth_swapV (a : List Int) (i q : Nat) (h : q < a.length) : nth (swapV a i) q = swV i (nth a q) := nth_map _ a q h
/-- The place exchanged. -/
def swN (i q : Nat) : Nat := if q = i then i + 1 else if q = i + 1 then i else q
theorem swN_lt {i q n : Nat} (hi : i + 1 < n) (hq : q < n) : swN i q < n := by unfold swN; grind
theorem nth_swapAt' (l : List Int) (i j : Nat) (h : i + 1 < l.length) : nth (swapAt l i) j = nth l (swN i j) := by
  rw [nth_swapAt l i j h]
  unfold swN
  by_cases h1 : j = i
  · subst h1; rw [if_neg (by omega), if_pos rfl, if_pos rfl]
  · by_cases h2 : j = i + 1
    · rw [if_pos h2, if_neg h1, if_pos h2]
    · rw [if_neg h2, if_neg h1, if_neg h1, if_neg h2]
theorem swapAt_swapAt (l : List Int) (i : Nat) (h : i + 1 < l.length) : swapAt (swapAt l i) i = l := by
  refine ext_nth (by simp [swapAt_length]) fun k _ => ?_
  rw [nth_swapAt' _ _ _ (by rw [swapAt_length]; exact h), nth_swapAt' _ _ _ h]
  congr 1
  unfold swN; grind

/-- A permutation of degree n. -/
structure Pn (n : Nat) (a : List Int) : Prop where
  perm : IsPerm a
  len : a.length = n
theorem Pn.range {n : Nat} {a : List Int} (h : Pn n a) {q : Nat} (hq : q < n) : 0 ≤ nth a q ∧ nth a q < n := by
  have := h.perm.range _ (nth_mem (xs := a) (k := q) (by rw [h.len]; exact hq))
  rw [h.len] at this; exact this
theorem pn_iota {n : Nat} (h : n ≤ 1000) : Pn n (iota n) := ⟨isPerm_iota h, iota_length n⟩
theorem Pn.back {n : Nat} {a : List Int} (h : Pn n a) : Pn n (backL a) := ⟨h.perm.back, by rw [backL_length, h.len]⟩
theorem Pn.then {n : Nat} {a b : List Int} (h : Pn n a) (k : Pn n b) : Pn n (thenL a b) := ⟨h.perm.then k.perm (by rw [h.len, k.len]), by rw [thenL_length, h.len]⟩
theorem swapV_iota {n i : Nat} (h : i + 1 < n) : swapV (iota n) i = swapAt (iota n) i := by
  refine ext_nth (by rw [swapV_length, swapAt_length]) fun k hk => ?_
  rw [swapV_length, iota_length] at hk
  rw [nth_swapV _ _ _ (by rw [iota_length]; exact hk), nth_swapAt' _ _ _ (by rw [iota_length]; exact h), nth_iota _ _ hk, nth_iota _ _ (swN_lt h hk)]
  unfold swV swN; grind
theorem Pn.swapAt {n : Nat} {a : List Int} (h : Pn n a) {i : Nat} (hi : i + 1 < n) : Pn n (Go.Proofs.Ytnmklkjlcpgjmaa.swapAt a i) := by
  have hl := swapAt_length a i
  refine ⟨⟨?_, by rw [hl]; exact h.perm.small⟩, by rw [hl, h.len]⟩
  rw [hl]
  exact (swapAt_perm a i (by rw [h.len]; exact hi)).trans h.perm.perm
theorem Pn.swapV {n : Nat} {a : List Int} (h : Pn n a) {i : Nat} (hi : i + 1 < n) : Pn n (Go.Proofs.Ytnmklkjlcpgjmaa.swapV a i) := by
  have hl := swapV_length a i
  refine ⟨⟨?_, by rw [hl]; exact h.perm.small⟩, by rw [hl, h.len]⟩
  rw [hl, h.len]
  have h1 : (Go.Proofs.Ytnmklkjlcpgjmaa.swapV a i).Perm (Go.Proofs.Ytnmklkjlcpgjmaa.swapV (iota n) i) := by have := h.perm.perm; rw [h.len] at this; exact this.map _
  rw [swapV_iota hi] at h1
  exact h1.trans (swapAt_perm _ i (by rw [iota_length]; exact hi))

/-- Where a value stands. -/
theorem back_at {n : Nat} {a : List Int} (h : Pn n a) {q : Nat} (hq : q < n) : nth (backL a) (nth a q).toNat = q := backTo_hit h.perm _ (Nat.le_refl _) q (by rw [h.len]; exact hq)
theorem hit {n : Nat} {a : List Int} (h : Pn n a) {x : Nat} (hx : x < n) : ∃ q, q < n ∧ nth a q = x ∧ nth (backL a) x = q := by
  obtain ⟨q, hq, e⟩ := h.perm.hit (k := x) (by rw [h.len]; exact hx)
  rw [h.len] at hq
  have := back_at h hq
  rw [e, Int.toNat_natCast] at this
  exact ⟨q, hq, e, this⟩
theorem back_swapV {n : Nat} {a : List Int} (h : Pn n a) {i : Nat} (hi : i + 1 < n) : backL (swapV a i) = swapAt (backL a) i := by
  refine ext_nth (by rw [backL_length, swapV_length, swapAt_length, backL_length]) fun x hx => ?_
  rw [backL_length, swapV_length, h.len] at hx
  obtain ⟨q, hq, e, e2⟩ := hit (h.swapV hi) hx
  rw [nth_swapV _ _ _ (by rw [h.len]; exact hq)] at e
  rw [e2, nth_swapAt' _ _ _ (by rw [backL_length, h.len]; exact hi)]
  have e3 : nth a q = ((swN i x : Nat) : Int) := by
    have := congrArg (swV i) e
    rw [swV_swV] at this
    rw [this]
    unfold swV swN; grind
  have := back_at h hq
  rw [e3, Int.toNat_natCast] at this
  exact this.symm
theorem back_back {n : Nat} {a : List Int} (h : Pn n a) : backL (backL a) = a := by
  refine ext_nth (by simp [backL_length]) fun x hx => ?_
  rw [backL_length, backL_length, h.len] at hx
  obtain ⟨q, hq, e, e2⟩ := hit h.back hx
  rw [e2]
  have hr := h.range hx
  obtain ⟨y, hy⟩ : ∃ y : Nat, nth a x = y := ⟨(nth a x).toNat, by omega⟩
  have h3 := back_at h hx
  rw [hy, Int.toNat_natCast] at h3
  have : q = y := by
    have hyn : y < n := by omega
    exact h.back.perm.inj (by rw [backL_length, h.len]; exact hq) (by rw [backL_length, h.len]; exact hyn) (by rw [e, h3])
  rw [hy, this]
theorem back_swapAt {n : Nat} {b : List Int} (h : Pn n b) {i : Nat} (hi : i + 1 < n) : backL (swapAt b i) = swapV (backL b) i := by
  have h1 := back_swapV h.back hi
  rw [back_back h] at h1
  rw [← h1, back_back (h.back.swapV hi)]
theorem swap_comm {n : Nat} {a : List Int} (h : Pn n a) {i : Nat} (hi : i + 1 < n) (j : Nat) : swapAt (swapV a j) i = swapV (swapAt a i) j := swapAt_map (swV j) a i (by rw [h.len]; exact hi)

/-- The crossing i can be taken away at the beginning; it can be added at the end. -/
def dn (b : List Int) (i : Nat) : Prop := nth b (i + 1) < nth b i
def up (a : List Int) (i : Nat) : Prop := nth (backL a) i < nth (backL a) (i + 1)
theorem dn_or {n : Nat} {b : List Int} (h : Pn n b) {i : Nat} (hi : i + 1 < n) : dn b i ∨ nth b i < nth b (i + 1) := by
  unfold dn
  rcases Int.lt_trichotomy (nth b i) (nth b (i + 1)) with h1 | h1 | h1
  · exact .inr h1
  · have := h.perm.inj (by rw [h.len]; omega) (by rw [h.len]; exact hi) h1; omega
  · exact .inl h1

/-! Inversions. -/
def inv : List Int → Nat
  | [] => 0
  | x :: t => less t x + inv t
theorem less_cons (t : List Int) (x y : Int) : less (y :: t) x = (if y < x then 1 else 0) + less t x := by
  unfold less
  rw [List.filter_cons]
  by_cases h : y < x
  · simp [h]; omega
  · simp [h]
theorem inv_swapAt (l : List Int) : ∀ i, i + 1 < l.length → nth l (i + 1) < nth l i → inv (swapAt l i) + 1 = inv l := by
  induction l with
  | nil => intro i h; simp at h
  | cons a l ih =>
    intro i h hd
    cases i with
    | zero =>
      cases l with
      | nil => simp at h
      | cons b t =>
        have hb : b < a := by simpa [nth] using hd
        have e : swapAt (a :: b :: t) 0 = b :: a :: t := by simp [swapAt, nth]
        rw [e, inv, inv, inv, inv, less_cons, less_cons, if_pos hb, if_neg (by omega)]
        omega
    | succ i =>
      have hi : i + 1 < l.length := by simpa using h
      rw [swapAt_cons, inv, inv, less_perm (swapAt_perm l i hi) a]
      have := ih i hi (by simpa [nth] using hd)
      omega
theorem inv_dn {n : Nat} {b : List Int} (h : Pn n b) {i : Nat} (hi : i + 1 < n) (hd : dn b i) : inv (swapAt b i) + 1 = inv b := inv_swapAt b i (by rw [h.len]; exact hi) hd

/-- The values i and i + 1 are not both there: their exchange turns no order. -/
theorem less_swV {i : Nat} (t : List Int) (x : Int) (h : ∀ y ∈ t, (swV i y < swV i x ↔ y < x)) : less (t.map (swV i)) (swV i x) = less t x := by
  induction t with
  | nil => rfl
  | cons y t ih =>
    rw [List.map_cons, less_cons, less_cons, ih (fun z hz => h z (by simp [hz]))]
    have := h y (by simp)
    by_cases hy : y < x
    · rw [if_pos hy, if_pos (this.2 hy)]
    · rw [if_neg hy, if_neg (fun e => hy (this.1 e))]
theorem swV_lt {i : Nat} {x y : Int} (h : ¬ (x = i ∧ y = (i : Int) + 1)) (k : ¬ (x = (i : Int) + 1 ∧ y = i)) : swV i y < swV i x ↔ y < x := by unfold swV; grind
theorem inv_none {i : Nat} (t : List Int) : ((i : Int) ∉ t ∨ (i : Int) + 1 ∉ t) → inv (t.map (swV i)) = inv t := by
  induction t with
  | nil => intro _; rfl
  | cons x t ih =>
    intro h
    have h' : (i : Int) ∉ t ∨ (i : Int) + 1 ∉ t := by
      rcases h with h | h
      · exact .inl (fun m => h (by simp [m]))
      · exact .inr (fun m => h (by simp [m]))
    rw [List.map_cons, inv, inv, ih h', less_swV]
    intro y hy
    refine swV_lt (fun e => ?_) (fun e => ?_)
    · rcases h with h | h
      · exact h (by simp [e.1])
      · exact h (by rw [← e.2]; simp [hy])
    · rcases h with h | h
      · exact h (by rw [← e.2]; simp [hy])
      · exact h (by simp [e.1])
theorem less_one {i : Nat} (v : List Int) : v.Nodup → (i : Int) ∉ v → (i : Int) + 1 ∈ v → less (v.map (swV i)) ((i : Int) + 1) = less v i + 1 := by
  induction v with
  | nil => intro _ _ h; cases h
  | cons y v ih =>
    intro hn hi hm
    have hn' := List.nodup_cons.1 hn
    have hiv : (i : Int) ∉ v := fun h => hi (by simp [h])
    have hyi : y ≠ i := fun h => hi (by simp [h])
    rw [List.map_cons, less_cons, less_cons]
    by_cases e : y = (i : Int) + 1
    · have hnv : (i : Int) + 1 ∉ v := by rw [← e]; exact hn'.1
      have h1 : less (v.map (swV i)) ((i : Int) + 1) = less v i := by
        have h2 : v.map (swV i) = v := by
          have : ∀ z ∈ v, swV i z = z := fun z hz => by
            have z1 : z ≠ i := fun e => hiv (e ▸ hz)
            have z2 : z ≠ (i : Int) + 1 := fun e => hnv (e ▸ hz)
            unfold swV; rw [if_neg z1, if_neg z2]
          rw [List.map_congr_left this, List.map_id']
        rw [h2]
        have : ∀ (l : List Int), (i : Int) ∉ l → less l ((i : Int) + 1) = less l i := by
          intro l
          induction l with
          | nil => intro _; rfl
          | cons z l ihl =>
            intro hz
            have z1 : z ≠ i := fun e => hz (by simp [e])
            rw [less_cons, less_cons, ihl (fun h => hz (by simp [h]))]
            by_cases hl : z < i
            · rw [if_pos hl, if_pos (by omega)]
            · rw [if_neg hl, if_neg (by omega)]
        exact this v hiv
      rw [h1, e, if_neg (by omega : ¬ (i : Int) + 1 < i)]
      have : swV i ((i : Int) + 1) = i := by unfold swV; rw [if_neg (by omega), if_pos rfl]
      rw [this, if_pos (by omega)]; omega
    · have hmv : (i : Int) + 1 ∈ v := by
        rcases List.mem_cons.1 hm with h | h
        · exact absurd h.symm e
        · exact h
      rw [ih hn'.2 hiv hmv]
      have : swV i y = y := by unfold swV; rw [if_neg hyi, if_neg e]
      rw [this]
      by_cases hl : y < i
      · rw [if_pos hl, if_pos (by omega)]; omega
      · rw [if_neg hl, if_neg (by omega)]; omega
theorem inv_before {i : Nat} (u v : List Int) : (u ++ (i : Int) :: v).Nodup → (i : Int) + 1 ∈ v → inv ((u ++ (i : Int) :: v).map (swV i)) = inv (u ++ (i : Int) :: v) + 1 := by
  induction u with
  | nil =>
    intro hn hm
    have hn' := List.nodup_cons.1 hn
    rw [List.nil_append, List.map_cons, inv, inv, inv_none v (.inl hn'.1)]
    have : swV i (i : Int) = (i : Int) + 1 := by unfold swV; rw [if_pos rfl]
    rw [this, less_one v hn'.2 hn'.1 hm]; omega
  | cons x u ih =>
    intro hn hm
    rw [List.cons_append] at hn ⊢
    have hn' := List.nodup_cons.1 hn
    have hx1 : x ≠ i := fun e => hn'.1 (by simp [e])
    have hx2 : x ≠ (i : Int) + 1 := fun e => hn'.1 (by rw [e]; simp [hm])
    rw [List.map_cons, inv, inv, ih hn'.2 hm, less_swV]
    · omega
    · intro y _
      exact swV_lt (fun e => hx1 e.1) (fun e => hx2 e.1)
theorem inv_up {n : Nat} {a : List Int} (h : Pn n a) {i : Nat} (hi : i + 1 < n) (hu : up a i) : inv (swapV a i) = inv a + 1 := by
  obtain ⟨p, hp, e1, e2⟩ := hit h (x := i) (by omega)
  obtain ⟨q, hq, e3, e4⟩ := hit h (x := i + 1) hi
  unfold up at hu
  rw [e2, e4] at hu
  have hpq : p < q := by omega
  have hpl : p < a.length := by rw [h.len]; exact hp
  have hd : a = a.take p ++ (i : Int) :: a.drop (p + 1) := by
    conv => lhs; rw [← List.take_append_drop p a, List.drop_eq_getElem_cons hpl, ← nth_lt hpl, e1]
  have hm : (i : Int) + 1 ∈ a.drop (p + 1) := by
    rw [show (i : Int) + 1 = ((i + 1 : Nat) : Int) by omega, ← e3, nth_lt (by rw [h.len]; exact hq)]
    rw [List.mem_iff_getElem]
    exact ⟨q - (p + 1), by rw [List.length_drop, h.len]; omega, by rw [List.getElem_drop]; congr 1; omega⟩
  have hn := h.perm.nodup
  unfold swapV
  rw [hd] at hn ⊢
  exact inv_before _ _ hn hm
theorem up_or {n : Nat} {a : List Int} (h : Pn n a) {i : Nat} (hi : i + 1 < n) : up a i ∨ dn (backL a) i := by
  rcases dn_or h.back hi with h1 | h1
  · exact .inr h1
  · exact .inl h1
theorem up_swapV {n : Nat} {a : List Int} (h : Pn n a) {i : Nat} (hi : i + 1 < n) (hd : dn (backL a) i) : up (swapV a i) i := by
  unfold up
  have hl : i + 1 < (backL a).length := by rw [backL_length, h.len]; exact hi
  rw [back_swapV h hi, nth_swapAt' _ _ _ hl, nth_swapAt' _ _ _ hl]
  unfold swN; unfold dn at hd
  simpa using hd
theorem inv_down {n : Nat} {a : List Int} (h : Pn n a) {i : Nat} (hi : i + 1 < n) (hd : dn (backL a) i) : inv (swapV a i) + 1 = inv a := by
  have := inv_up (h.swapV hi) hi (up_swapV h hi hd)
  rw [swapV_swapV] at this
  exact this.symm

/-- Without inversions: the identity. -/
theorem iota_of {n : Nat} {a : List Int} (h : Pn n a) (hu : ∀ i, i + 1 < n → up a i) : a = iota n := by
  have hc : ∀ i, i < n → nth (backL a) i = i := by
    have hr := fun i (hi : i < n) => h.back.range hi
    have hlo : ∀ i, i < n → (i : Int) ≤ nth (backL a) i := by
      intro i
      induction i with
      | zero => intro hi; exact (hr 0 hi).1
      | succ i ih =>
        intro hi
        have h1 := ih (by omega)
        have h2 : nth (backL a) i < nth (backL a) (i + 1) := hu i hi
        omega
    have hhi : ∀ k i, i + k + 1 = n → nth (backL a) i ≤ (i : Int) := by
      intro k
      induction k with
      | zero => intro i hi; have := (hr i (by omega)).2; omega
      | succ k ih =>
        intro i hi
        have h1 := ih (i + 1) (by omega)
        have h2 : nth (backL a) i < nth (backL a) (i + 1) := hu i (by omega)
        omega
    intro i hi
    have h1 := hlo i hi
    have h2 := hhi (n - i - 1) i (by omega)
    omega
  refine ext_nth (by rw [h.len, iota_length]) fun q hq => ?_
  rw [h.len] at hq
  have hr := h.range hq
  have h1 := back_at h hq
  rw [hc _ (by omega)] at h1
  rw [nth_iota _ _ hq]; omega
/-- Every permutation is made from the identity by adding crossings. -/
theorem permInd {n : Nat} (_hn : n ≤ 1000) {P : List Int → Prop} (h0 : P (iota n)) (h1 : ∀ f j, Pn n f → j + 1 < n → up f j → P f → P (swapV f j)) : ∀ f, Pn n f → P f := by
  have : ∀ m f, inv f ≤ m → Pn n f → P f := by
    intro m
    induction m with
    | zero =>
      intro f hf hp
      have : ∀ i, i + 1 < n → up f i := fun i hi => by
        rcases up_or hp hi with h | h
        · exact h
        · have := inv_down hp hi h; omega
      rw [iota_of hp this]; exact h0
    | succ m ih =>
      intro f hf hp
      by_cases hall : ∀ i, i + 1 < n → up f i
      · rw [iota_of hp hall]; exact h0
      · obtain ⟨i, hi⟩ := Classical.not_forall.1 hall
        obtain ⟨hi, hu⟩ := Classical.not_imp.1 hi
        have hd := (up_or hp hi).resolve_left hu
        have h2 := inv_down hp hi hd
        have h3 := h1 (swapV f i) i (hp.swapV hi) hi (up_swapV hp hi hd) (ih _ (by omega) (hp.swapV hi))
        rwa [swapV_swapV] at h3
  exact fun f hf => this _ f (Nat.le_refl _) hf

end Go.Proofs.Ytnmklkjlcpgjmaa


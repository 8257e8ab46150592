/- DYNNIKOV's action of braid words; braid words' equality by relations; a word whose letters of least index are all positive is not trivial. No program. -/
import Derived.Test.YtnmklkjlcpgjmaaQTopWordProblem0
import Derived.Test.YtnmklkjlcpgjmaaQTopWordProblem1

namespace Go.Proofs.Ytnmklkjlcpgjmaa
open Go.RowKit Go.Sl

/-- A letter acts on the four coordinates of its strands. -/
def dynP (a b c d : Int) : Int × Int × Int × Int :=
  (a + max b 0 + max (max d 0 - (a - min b 0 - c + max d 0)) 0, d - max (a - min b 0 - c + max d 0) 0, c + min d 0 + min (min b 0 + (a - min b 0 - c + max d 0)) 0, b + max (a - min b 0 - c + max d 0) 0)
def dynN (a b c d : Int) : Int × Int × Int × Int :=
  (a - max b 0 - max (max d 0 + (a + min b 0 - c - max d 0)) 0, d + min (a + min b 0 - c - max d 0) 0, c - min d 0 - min (min b 0 - (a + min b 0 - c - max d 0)) 0, b - min (a + min b 0 - c - max d 0) 0)
theorem dyn_pn (a b c d : Int) : (let q := dynP a b c d; dynN q.1 q.2.1 q.2.2.1 q.2.2.2) = (a, b, c, d) := by
  simp only [dynP, dynN, Prod.mk.injEq]
  refine ⟨?_, ?_, ?_, ?_⟩ <;> omega
theorem dyn_np (a b c d : Int) : (let q := dynN a b c d; dynP q.1 q.2.1 q.2.2.1 q.2.2.2) = (a, b, c, d) := by
  simp only [dynP, dynN, Prod.mk.injEq]
  refine ⟨?_, ?_, ?_, ?_⟩ <;> omega
theorem dq11n {a b c d a' b' c' d' : Int} (h : dynP a b c d = (a', b', c', d')) (h0 : 0 ≤ b) (h1 : 0 ≤ d) (h2 : a - c + d ≤ 0) : b + c = a' ∧ d = b' ∧ a + d = c' ∧ b = d' := by
  simp only [dynP, Prod.mk.injEq] at h
  omega
theorem dq11p11 {a b c d a' b' c' d' : Int} (h : dynP a b c d = (a', b', c', d')) (h0 : 0 ≤ b) (h1 : 0 ≤ d) (h2 : 0 ≤ a - c + d) (h3 : 0 ≤ -a + c) : b + c = a' ∧ -a + c = b' ∧ c = c' ∧ a + b - c + d = d' := by
  simp only [dynP, Prod.mk.injEq] at h
  omega
theorem dq11p01 {a b c d a' b' c' d' : Int} (h : dynP a b c d = (a', b', c', d')) (h0 : 0 ≤ b) (h1 : 0 ≤ d) (h2 : 0 ≤ a - c + d) (h3 : -a + c ≤ 0) : a + b = a' ∧ -a + c = b' ∧ c = c' ∧ a + b - c + d = d' := by
  simp only [dynP, Prod.mk.injEq] at h
  omega
theorem dq10n {a b c d a' b' c' d' : Int} (h : dynP a b c d = (a', b', c', d')) (h0 : 0 ≤ b) (h1 : d ≤ 0) (h2 : a - c ≤ 0) : b + c = a' ∧ d = b' ∧ a + d = c' ∧ b = d' := by
  simp only [dynP, Prod.mk.injEq] at h
  omega
theorem dq10p01 {a b c d a' b' c' d' : Int} (h : dynP a b c d = (a', b', c', d')) (h0 : 0 ≤ b) (h1 : d ≤ 0) (h2 : 0 ≤ a - c) : a + b = a' ∧ -a + c + d = b' ∧ c + d = c' ∧ a + b - c = d' := by
  simp only [dynP, Prod.mk.injEq] at h
  omega
theorem dq01n {a b c d a' b' c' d' : Int} (h : dynP a b c d = (a', b', c', d')) (h0 : b ≤ 0) (h1 : 0 ≤ d) (h2 : a - b - c + d ≤ 0) : b + c = a' ∧ d = b' ∧ a + d = c' ∧ b = d' := by
  simp only [dynP, Prod.mk.injEq] at h
  omega
theorem dq01p11 {a b c d a' b' c' d' : Int} (h : dynP a b c d = (a', b', c', d')) (h0 : b ≤ 0) (h1 : 0 ≤ d) (h2 : 0 ≤ a - b - c + d) (h3 : 0 ≤ -a + b + c) (h4 : 0 ≤ a - c + d) : b + c = a' ∧ -a + b + c = b' ∧ c = c' ∧ a - c + d = d' := by
  simp only [dynP, Prod.mk.injEq] at h
  omega
theorem dq01p10 {a b c d a' b' c' d' : Int} (h : dynP a b c d = (a', b', c', d')) (h0 : b ≤ 0) (h1 : 0 ≤ d) (h2 : 0 ≤ a - b - c + d) (h3 : 0 ≤ -a + b + c) (h4 : a - c + d ≤ 0) : b + c = a' ∧ -a + b + c = b' ∧ a + d = c' ∧ a - c + d = d' := by
  simp only [dynP, Prod.mk.injEq] at h
  omega
theorem dq01p01 {a b c d a' b' c' d' : Int} (h : dynP a b c d = (a', b', c', d')) (h0 : b ≤ 0) (h1 : 0 ≤ d) (h2 : 0 ≤ a - b - c + d) (h3 : -a + b + c ≤ 0) (h4 : 0 ≤ a - c + d) : a = a' ∧ -a + b + c = b' ∧ c = c' ∧ a - c + d = d' := by
  simp only [dynP, Prod.mk.injEq] at h
  omega
theorem dq01p00 {a b c d a' b' c' d' : Int} (h : dynP a b c d = (a', b', c', d')) (h0 : b ≤ 0) (h1 : 0 ≤ d) (h2 : 0 ≤ a - b - c + d) (h3 : -a + b + c ≤ 0) (h4 : a - c + d ≤ 0) : a = a' ∧ -a + b + c = b' ∧ a + d = c' ∧ a - c + d = d' := by
  simp only [dynP, Prod.mk.injEq] at h
  omega
theorem dq00n {a b c d a' b' c' d' : Int} (h : dynP a b c d = (a', b', c', d')) (h0 : b ≤ 0) (h1 : d ≤ 0) (h2 : a - b - c ≤ 0) : b + c = a' ∧ d = b' ∧ a + d = c' ∧ b = d' := by
  simp only [dynP, Prod.mk.injEq] at h
  omega
theorem dq00p01 {a b c d a' b' c' d' : Int} (h : dynP a b c d = (a', b', c', d')) (h0 : b ≤ 0) (h1 : d ≤ 0) (h2 : 0 ≤ a - b - c) (h3 : 0 ≤ a - c) : a = a' ∧ -a + b + c + d = b' ∧ c + d = c' ∧ a - c = d' := by
  simp only [dynP, Prod.mk.injEq] at h
  omega
theorem dq00p00 {a b c d a' b' c' d' : Int} (h : dynP a b c d = (a', b', c', d')) (h0 : b ≤ 0) (h1 : d ≤ 0) (h2 : 0 ≤ a - b - c) (h3 : a - c ≤ 0) : a = a' ∧ -a + b + c + d = b' ∧ a + d = c' ∧ a - c = d' := by
  simp only [dynP, Prod.mk.injEq] at h
  omega
end Go.Proofs.Ytnmklkjlcpgjmaa

namespace Go.Proofs.Ytnmklkjlcpgjmaa
open Go.RowKit Go.Sl

set_option maxHeartbeats 8000000 in
theorem dyn_all {a b c d e f a1 b1 c1 d1 C1 D1 E1 F1 c2 d2 e2 f2 A2 B2 C2 D2 a3 b3 c3 d3 C3 D3 E3 F3 : Int} (hp : dynP a b c d = (a1, b1, c1, d1)) (hq : dynP c d e f = (C1, D1, E1, F1)) (hx : dynP c1 d1 e f = (c2, d2, e2, f2)) (hr : dynP a b C1 D1 = (A2, B2, C2, D2)) (hy : dynP a1 b1 c2 d2 = (a3, b3, c3, d3)) (hw : dynP C2 D2 E1 F1 = (C3, D3, E3, F3)) :
    a3 = A2 ∧ b3 = B2 ∧ c3 = C3 ∧ d3 = D3 ∧ e2 = E3 ∧ f2 = F3 := by
  rcases Int.le_total 0 (b) with k | k
  · rcases Int.le_total 0 (d) with k | k
    · rcases Int.le_total 0 (a - c + d) with k | k
      · rcases Int.le_total 0 (-a + c) with k | k
        · obtain ⟨rfl, rfl, rfl, rfl⟩ := dq11p11 hp (by omega) (by omega) (by omega) (by omega)
          rcases Int.le_total 0 (f) with k | k
          · rcases Int.le_total 0 (c - e + f) with k | k
            · rcases Int.le_total 0 (-c + e) with k | k
              · obtain ⟨rfl, rfl, rfl, rfl⟩ := dq11p11 hq (by omega) (by omega) (by omega) (by omega)
                obtain ⟨rfl, rfl, rfl, rfl⟩ := dq11p11 hx (by omega) (by omega) (by omega) (by omega)
                obtain ⟨rfl, rfl, rfl, rfl⟩ := dq11n hr (by omega) (by omega) (by omega)
                obtain ⟨rfl, rfl, rfl, rfl⟩ := dq11n hy (by omega) (by omega) (by omega)
                obtain ⟨rfl, rfl, rfl, rfl⟩ := dq11p11 hw (by omega) (by omega) (by omega) (by omega)
                refine ⟨?_, ?_, ?_, ?_, ?_, ?_⟩ <;> omega
              · obtain ⟨rfl, rfl, rfl, rfl⟩ := dq11p01 hq (by omega) (by omega) (by omega) (by omega)
                obtain ⟨rfl, rfl, rfl, rfl⟩ := dq11p01 hx (by omega) (by omega) (by omega) (by omega)
                obtain ⟨rfl, rfl, rfl, rfl⟩ := dq10n hr (by omega) (by omega) (by omega)
                obtain ⟨rfl, rfl, rfl, rfl⟩ := dq10n hy (by omega) (by omega) (by omega)
                obtain ⟨rfl, rfl, rfl, rfl⟩ := dq11p11 hw (by omega) (by omega) (by omega) (by omega)
                refine ⟨?_, ?_, ?_, ?_, ?_, ?_⟩ <;> omega
            · obtain ⟨rfl, rfl, rfl, rfl⟩ := dq11n hq (by omega) (by omega) (by omega)
              obtain ⟨rfl, rfl, rfl, rfl⟩ := dq11n hx (by omega) (by omega) (by omega)
              obtain ⟨rfl, rfl, rfl, rfl⟩ := dq11n hr (by omega) (by omega) (by omega)
              obtain ⟨rfl, rfl, rfl, rfl⟩ := dq11n hy (by omega) (by omega) (by omega)
              obtain ⟨rfl, rfl, rfl, rfl⟩ := dq11p11 hw (by omega) (by omega) (by omega) (by omega)
              refine ⟨?_, ?_, ?_, ?_, ?_, ?_⟩ <;> omega
          · rcases Int.le_total 0 (c - e) with k | k
            · obtain ⟨rfl, rfl, rfl, rfl⟩ := dq10p01 hq (by omega) (by omega) (by omega)
              obtain ⟨rfl, rfl, rfl, rfl⟩ := dq10p01 hx (by omega) (by omega) (by omega)
              obtain ⟨rfl, rfl, rfl, rfl⟩ := dq10n hr (by omega) (by omega) (by omega)
              obtain ⟨rfl, rfl, rfl, rfl⟩ := dq10n hy (by omega) (by omega) (by omega)
              obtain ⟨rfl, rfl, rfl, rfl⟩ := dq11p11 hw (by omega) (by omega) (by omega) (by omega)
              refine ⟨?_, ?_, ?_, ?_, ?_, ?_⟩ <;> omega
            · obtain ⟨rfl, rfl, rfl, rfl⟩ := dq10n hq (by omega) (by omega) (by omega)
              obtain ⟨rfl, rfl, rfl, rfl⟩ := dq10n hx (by omega) (by omega) (by omega)
              obtain ⟨rfl, rfl, rfl, rfl⟩ := dq10n hr (by omega) (by omega) (by omega)
              obtain ⟨rfl, rfl, rfl, rfl⟩ := dq10n hy (by omega) (by omega) (by omega)
              obtain ⟨rfl, rfl, rfl, rfl⟩ := dq11p11 hw (by omega) (by omega) (by omega) (by omega)
              refine ⟨?_, ?_, ?_, ?_, ?_, ?_⟩ <;> omega
        · obtain ⟨rfl, rfl, rfl, rfl⟩ := dq11p01 hp (by omega) (by omega) (by omega) (by omega)
          rcases Int.le_total 0 (f) with k | k
          · rcases Int.le_total 0 (c - e + f) with k | k
            · rcases Int.le_total 0 (-c + e) with k | k
              · obtain ⟨rfl, rfl, rfl, rfl⟩ := dq11p11 hq (by omega) (by omega) (by omega) (by omega)
                obtain ⟨rfl, rfl, rfl, rfl⟩ := dq11p11 hx (by omega) (by omega) (by omega) (by omega)
                rcases Int.le_total 0 (a - c - d) with k | k
                · rcases Int.le_total 0 (-a + d + e) with k | k
                  · obtain ⟨rfl, rfl, rfl, rfl⟩ := dq11p11 hr (by omega) (by omega) (by omega) (by omega)
                    obtain ⟨rfl, rfl, rfl, rfl⟩ := dq01p10 hy (by omega) (by omega) (by omega) (by omega) (by omega)
                    obtain ⟨rfl, rfl, rfl, rfl⟩ := dq11p01 hw (by omega) (by omega) (by omega) (by omega)
                    refine ⟨?_, ?_, ?_, ?_, ?_, ?_⟩ <;> omega
                  · obtain ⟨rfl, rfl, rfl, rfl⟩ := dq11p01 hr (by omega) (by omega) (by omega) (by omega)
                    obtain ⟨rfl, rfl, rfl, rfl⟩ := dq01p00 hy (by omega) (by omega) (by omega) (by omega) (by omega)
                    obtain ⟨rfl, rfl, rfl, rfl⟩ := dq11p01 hw (by omega) (by omega) (by omega) (by omega)
                    refine ⟨?_, ?_, ?_, ?_, ?_, ?_⟩ <;> omega
                · obtain ⟨rfl, rfl, rfl, rfl⟩ := dq11n hr (by omega) (by omega) (by omega)
                  obtain ⟨rfl, rfl, rfl, rfl⟩ := dq01n hy (by omega) (by omega) (by omega)
                  obtain ⟨rfl, rfl, rfl, rfl⟩ := dq11p01 hw (by omega) (by omega) (by omega) (by omega)
                  refine ⟨?_, ?_, ?_, ?_, ?_, ?_⟩ <;> omega
              · obtain ⟨rfl, rfl, rfl, rfl⟩ := dq11p01 hq (by omega) (by omega) (by omega) (by omega)
                obtain ⟨rfl, rfl, rfl, rfl⟩ := dq11p01 hx (by omega) (by omega) (by omega) (by omega)
                rcases Int.le_total 0 (a - c - d) with k | k
                · obtain ⟨rfl, rfl, rfl, rfl⟩ := dq10p01 hr (by omega) (by omega) (by omega)
                  obtain ⟨rfl, rfl, rfl, rfl⟩ := dq00p00 hy (by omega) (by omega) (by omega) (by omega)
                  obtain ⟨rfl, rfl, rfl, rfl⟩ := dq11p01 hw (by omega) (by omega) (by omega) (by omega)
                  refine ⟨?_, ?_, ?_, ?_, ?_, ?_⟩ <;> omega
                · obtain ⟨rfl, rfl, rfl, rfl⟩ := dq10n hr (by omega) (by omega) (by omega)
                  obtain ⟨rfl, rfl, rfl, rfl⟩ := dq00n hy (by omega) (by omega) (by omega)
                  obtain ⟨rfl, rfl, rfl, rfl⟩ := dq11p01 hw (by omega) (by omega) (by omega) (by omega)
                  refine ⟨?_, ?_, ?_, ?_, ?_, ?_⟩ <;> omega
            · obtain ⟨rfl, rfl, rfl, rfl⟩ := dq11n hq (by omega) (by omega) (by omega)
              obtain ⟨rfl, rfl, rfl, rfl⟩ := dq11n hx (by omega) (by omega) (by omega)
              rcases Int.le_total 0 (a - d - e + f) with k | k
              · rcases Int.le_total 0 (-a + d + e) with k | k
                · obtain ⟨rfl, rfl, rfl, rfl⟩ := dq11p11 hr (by omega) (by omega) (by omega) (by omega)
                  obtain ⟨rfl, rfl, rfl, rfl⟩ := dq01p10 hy (by omega) (by omega) (by omega) (by omega) (by omega)
                  obtain ⟨rfl, rfl, rfl, rfl⟩ := dq11p01 hw (by omega) (by omega) (by omega) (by omega)
                  refine ⟨?_, ?_, ?_, ?_, ?_, ?_⟩ <;> omega
                · obtain ⟨rfl, rfl, rfl, rfl⟩ := dq11p01 hr (by omega) (by omega) (by omega) (by omega)
                  obtain ⟨rfl, rfl, rfl, rfl⟩ := dq01p00 hy (by omega) (by omega) (by omega) (by omega) (by omega)
                  obtain ⟨rfl, rfl, rfl, rfl⟩ := dq11p01 hw (by omega) (by omega) (by omega) (by omega)
                  refine ⟨?_, ?_, ?_, ?_, ?_, ?_⟩ <;> omega
              · obtain ⟨rfl, rfl, rfl, rfl⟩ := dq11n hr (by omega) (by omega) (by omega)
                obtain ⟨rfl, rfl, rfl, rfl⟩ := dq01n hy (by omega) (by omega) (by omega)
                obtain ⟨rfl, rfl, rfl, rfl⟩ := dq11p01 hw (by omega) (by omega) (by omega) (by omega)
                refine ⟨?_, ?_, ?_, ?_, ?_, ?_⟩ <;> omega
          · rcases Int.le_total 0 (c - e) with k | k
            · obtain ⟨rfl, rfl, rfl, rfl⟩ := dq10p01 hq (by omega) (by omega) (by omega)
              obtain ⟨rfl, rfl, rfl, rfl⟩ := dq10p01 hx (by omega) (by omega) (by omega)
              rcases Int.le_total 0 (a - c - d) with k | k
              · obtain ⟨rfl, rfl, rfl, rfl⟩ := dq10p01 hr (by omega) (by omega) (by omega)
                obtain ⟨rfl, rfl, rfl, rfl⟩ := dq00p00 hy (by omega) (by omega) (by omega) (by omega)
                obtain ⟨rfl, rfl, rfl, rfl⟩ := dq11p01 hw (by omega) (by omega) (by omega) (by omega)
                refine ⟨?_, ?_, ?_, ?_, ?_, ?_⟩ <;> omega
              · obtain ⟨rfl, rfl, rfl, rfl⟩ := dq10n hr (by omega) (by omega) (by omega)
                obtain ⟨rfl, rfl, rfl, rfl⟩ := dq00n hy (by omega) (by omega) (by omega)
                obtain ⟨rfl, rfl, rfl, rfl⟩ := dq11p01 hw (by omega) (by omega) (by omega) (by omega)
                refine ⟨?_, ?_, ?_, ?_, ?_, ?_⟩ <;> omega
            · obtain ⟨rfl, rfl, rfl, rfl⟩ := dq10n hq (by omega) (by omega) (by omega)
              obtain ⟨rfl, rfl, rfl, rfl⟩ := dq10n hx (by omega) (by omega) (by omega)
              rcases Int.le_total 0 (a - d - e) with k | k
              · obtain ⟨rfl, rfl, rfl, rfl⟩ := dq10p01 hr (by omega) (by omega) (by omega)
                obtain ⟨rfl, rfl, rfl, rfl⟩ := dq00p00 hy (by omega) (by omega) (by omega) (by omega)
                obtain ⟨rfl, rfl, rfl, rfl⟩ := dq11p01 hw (by omega) (by omega) (by omega) (by omega)
                refine ⟨?_, ?_, ?_, ?_, ?_, ?_⟩ <;> omega
              · obtain ⟨rfl, rfl, rfl, rfl⟩ := dq10n hr (by omega) (by omega) (by omega)
                obtain ⟨rfl, rfl, rfl, rfl⟩ := dq00n hy (by omega) (by omega) (by omega)
                obtain ⟨rfl, rfl, rfl, rfl⟩ := dq11p01 hw (by omega) (by omega) (by omega) (by omega)
                refine ⟨?_, ?_, ?_, ?_, ?_, ?_⟩ <;> omega
      · obtain ⟨rfl, rfl, rfl, rfl⟩ := dq11n hp (by omega) (by omega) (by omega)
        rcases Int.le_total 0 (f) with k | k
        · rcases Int.le_total 0 (c - e + f) with k | k
          · rcases Int.le_total 0 (-c + e) with k | k
            · obtain ⟨rfl, rfl, rfl, rfl⟩ := dq11p11 hq (by omega) (by omega) (by omega) (by omega)
              rcases Int.le_total 0 (a + d - e + f) with k | k
              · obtain ⟨rfl, rfl, rfl, rfl⟩ := dq11p11 hx (by omega) (by omega) (by omega) (by omega)
                obtain ⟨rfl, rfl, rfl, rfl⟩ := dq11n hr (by omega) (by omega) (by omega)
                obtain ⟨rfl, rfl, rfl, rfl⟩ := dq11p11 hy (by omega) (by omega) (by omega) (by omega)
                obtain ⟨rfl, rfl, rfl, rfl⟩ := dq11p11 hw (by omega) (by omega) (by omega) (by omega)
                refine ⟨?_, ?_, ?_, ?_, ?_, ?_⟩ <;> omega
              · obtain ⟨rfl, rfl, rfl, rfl⟩ := dq11n hx (by omega) (by omega) (by omega)
                obtain ⟨rfl, rfl, rfl, rfl⟩ := dq11n hr (by omega) (by omega) (by omega)
                obtain ⟨rfl, rfl, rfl, rfl⟩ := dq11p11 hy (by omega) (by omega) (by omega) (by omega)
                obtain ⟨rfl, rfl, rfl, rfl⟩ := dq11n hw (by omega) (by omega) (by omega)
                refine ⟨?_, ?_, ?_, ?_, ?_, ?_⟩ <;> omega
            · obtain ⟨rfl, rfl, rfl, rfl⟩ := dq11p01 hq (by omega) (by omega) (by omega) (by omega)
              rcases Int.le_total 0 (a + d - e + f) with k | k
              · rcases Int.le_total 0 (-a - d + e) with k | k
                · obtain ⟨rfl, rfl, rfl, rfl⟩ := dq11p11 hx (by omega) (by omega) (by omega) (by omega)
                  obtain ⟨rfl, rfl, rfl, rfl⟩ := dq10n hr (by omega) (by omega) (by omega)
                  obtain ⟨rfl, rfl, rfl, rfl⟩ := dq11p01 hy (by omega) (by omega) (by omega) (by omega)
                  obtain ⟨rfl, rfl, rfl, rfl⟩ := dq11p11 hw (by omega) (by omega) (by omega) (by omega)
                  refine ⟨?_, ?_, ?_, ?_, ?_, ?_⟩ <;> omega
                · obtain ⟨rfl, rfl, rfl, rfl⟩ := dq11p01 hx (by omega) (by omega) (by omega) (by omega)
                  obtain ⟨rfl, rfl, rfl, rfl⟩ := dq10n hr (by omega) (by omega) (by omega)
                  obtain ⟨rfl, rfl, rfl, rfl⟩ := dq10p01 hy (by omega) (by omega) (by omega)
                  obtain ⟨rfl, rfl, rfl, rfl⟩ := dq11p11 hw (by omega) (by omega) (by omega) (by omega)
                  refine ⟨?_, ?_, ?_, ?_, ?_, ?_⟩ <;> omega
              · obtain ⟨rfl, rfl, rfl, rfl⟩ := dq11n hx (by omega) (by omega) (by omega)
                obtain ⟨rfl, rfl, rfl, rfl⟩ := dq10n hr (by omega) (by omega) (by omega)
                obtain ⟨rfl, rfl, rfl, rfl⟩ := dq11p01 hy (by omega) (by omega) (by omega) (by omega)
                obtain ⟨rfl, rfl, rfl, rfl⟩ := dq11n hw (by omega) (by omega) (by omega)
                refine ⟨?_, ?_, ?_, ?_, ?_, ?_⟩ <;> omega
          · obtain ⟨rfl, rfl, rfl, rfl⟩ := dq11n hq (by omega) (by omega) (by omega)
            obtain ⟨rfl, rfl, rfl, rfl⟩ := dq11n hx (by omega) (by omega) (by omega)
            obtain ⟨rfl, rfl, rfl, rfl⟩ := dq11n hr (by omega) (by omega) (by omega)
            obtain ⟨rfl, rfl, rfl, rfl⟩ := dq11n hy (by omega) (by omega) (by omega)
            obtain ⟨rfl, rfl, rfl, rfl⟩ := dq11n hw (by omega) (by omega) (by omega)
            refine ⟨?_, ?_, ?_, ?_, ?_, ?_⟩ <;> omega
        · rcases Int.le_total 0 (c - e) with k | k
          · obtain ⟨rfl, rfl, rfl, rfl⟩ := dq10p01 hq (by omega) (by omega) (by omega)
            rcases Int.le_total 0 (a + d - e) with k | k
            · obtain ⟨rfl, rfl, rfl, rfl⟩ := dq10p01 hx (by omega) (by omega) (by omega)
              obtain ⟨rfl, rfl, rfl, rfl⟩ := dq10n hr (by omega) (by omega) (by omega)
              obtain ⟨rfl, rfl, rfl, rfl⟩ := dq10p01 hy (by omega) (by omega) (by omega)
              obtain ⟨rfl, rfl, rfl, rfl⟩ := dq11p11 hw (by omega) (by omega) (by omega) (by omega)
              refine ⟨?_, ?_, ?_, ?_, ?_, ?_⟩ <;> omega
            · obtain ⟨rfl, rfl, rfl, rfl⟩ := dq10n hx (by omega) (by omega) (by omega)
              obtain ⟨rfl, rfl, rfl, rfl⟩ := dq10n hr (by omega) (by omega) (by omega)
              obtain ⟨rfl, rfl, rfl, rfl⟩ := dq10p01 hy (by omega) (by omega) (by omega)
              obtain ⟨rfl, rfl, rfl, rfl⟩ := dq11n hw (by omega) (by omega) (by omega)
              refine ⟨?_, ?_, ?_, ?_, ?_, ?_⟩ <;> omega
          · obtain ⟨rfl, rfl, rfl, rfl⟩ := dq10n hq (by omega) (by omega) (by omega)
            obtain ⟨rfl, rfl, rfl, rfl⟩ := dq10n hx (by omega) (by omega) (by omega)
            obtain ⟨rfl, rfl, rfl, rfl⟩ := dq10n hr (by omega) (by omega) (by omega)
            obtain ⟨rfl, rfl, rfl, rfl⟩ := dq10n hy (by omega) (by omega) (by omega)
            obtain ⟨rfl, rfl, rfl, rfl⟩ := dq11n hw (by omega) (by omega) (by omega)
            refine ⟨?_, ?_, ?_, ?_, ?_, ?_⟩ <;> omega
    · rcases Int.le_total 0 (a - c) with k | k
      · obtain ⟨rfl, rfl, rfl, rfl⟩ := dq10p01 hp (by omega) (by omega) (by omega)
        rcases Int.le_total 0 (f) with k | k
        · rcases Int.le_total 0 (c - d - e + f) with k | k
          · rcases Int.le_total 0 (-c + d + e) with k | k
            · rcases Int.le_total 0 (c - e + f) with k | k
              · obtain ⟨rfl, rfl, rfl, rfl⟩ := dq01p11 hq (by omega) (by omega) (by omega) (by omega) (by omega)
                rcases Int.le_total 0 (c + d - e + f) with k | k
                · obtain ⟨rfl, rfl, rfl, rfl⟩ := dq11p11 hx (by omega) (by omega) (by omega) (by omega)
                  rcases Int.le_total 0 (-a + d + e) with k | k
                  · obtain ⟨rfl, rfl, rfl, rfl⟩ := dq11p11 hr (by omega) (by omega) (by omega) (by omega)
                    obtain ⟨rfl, rfl, rfl, rfl⟩ := dq01p11 hy (by omega) (by omega) (by omega) (by omega) (by omega)
                    obtain ⟨rfl, rfl, rfl, rfl⟩ := dq11p11 hw (by omega) (by omega) (by omega) (by omega)
                    refine ⟨?_, ?_, ?_, ?_, ?_, ?_⟩ <;> omega
                  · obtain ⟨rfl, rfl, rfl, rfl⟩ := dq11p01 hr (by omega) (by omega) (by omega) (by omega)
                    obtain ⟨rfl, rfl, rfl, rfl⟩ := dq01p01 hy (by omega) (by omega) (by omega) (by omega) (by omega)
                    obtain ⟨rfl, rfl, rfl, rfl⟩ := dq11p11 hw (by omega) (by omega) (by omega) (by omega)
                    refine ⟨?_, ?_, ?_, ?_, ?_, ?_⟩ <;> omega
                · obtain ⟨rfl, rfl, rfl, rfl⟩ := dq11n hx (by omega) (by omega) (by omega)
                  rcases Int.le_total 0 (-a + d + e) with k | k
                  · obtain ⟨rfl, rfl, rfl, rfl⟩ := dq11p11 hr (by omega) (by omega) (by omega) (by omega)
                    obtain ⟨rfl, rfl, rfl, rfl⟩ := dq01p11 hy (by omega) (by omega) (by omega) (by omega) (by omega)
                    obtain ⟨rfl, rfl, rfl, rfl⟩ := dq11n hw (by omega) (by omega) (by omega)
                    refine ⟨?_, ?_, ?_, ?_, ?_, ?_⟩ <;> omega
                  · obtain ⟨rfl, rfl, rfl, rfl⟩ := dq11p01 hr (by omega) (by omega) (by omega) (by omega)
                    obtain ⟨rfl, rfl, rfl, rfl⟩ := dq01p01 hy (by omega) (by omega) (by omega) (by omega) (by omega)
                    obtain ⟨rfl, rfl, rfl, rfl⟩ := dq11n hw (by omega) (by omega) (by omega)
                    refine ⟨?_, ?_, ?_, ?_, ?_, ?_⟩ <;> omega
              · obtain ⟨rfl, rfl, rfl, rfl⟩ := dq01p10 hq (by omega) (by omega) (by omega) (by omega) (by omega)
                obtain ⟨rfl, rfl, rfl, rfl⟩ := dq11n hx (by omega) (by omega) (by omega)
                rcases Int.le_total 0 (-a + d + e) with k | k
                · obtain ⟨rfl, rfl, rfl, rfl⟩ := dq11p11 hr (by omega) (by omega) (by omega) (by omega)
                  obtain ⟨rfl, rfl, rfl, rfl⟩ := dq01p10 hy (by omega) (by omega) (by omega) (by omega) (by omega)
                  obtain ⟨rfl, rfl, rfl, rfl⟩ := dq10n hw (by omega) (by omega) (by omega)
                  refine ⟨?_, ?_, ?_, ?_, ?_, ?_⟩ <;> omega
                · obtain ⟨rfl, rfl, rfl, rfl⟩ := dq11p01 hr (by omega) (by omega) (by omega) (by omega)
                  obtain ⟨rfl, rfl, rfl, rfl⟩ := dq01p00 hy (by omega) (by omega) (by omega) (by omega) (by omega)
                  obtain ⟨rfl, rfl, rfl, rfl⟩ := dq10n hw (by omega) (by omega) (by omega)
                  refine ⟨?_, ?_, ?_, ?_, ?_, ?_⟩ <;> omega
            · rcases Int.le_total 0 (c - e + f) with k | k
              · obtain ⟨rfl, rfl, rfl, rfl⟩ := dq01p01 hq (by omega) (by omega) (by omega) (by omega) (by omega)
                rcases Int.le_total 0 (c + d - e + f) with k | k
                · rcases Int.le_total 0 (-c - d + e) with k | k
                  · obtain ⟨rfl, rfl, rfl, rfl⟩ := dq11p11 hx (by omega) (by omega) (by omega) (by omega)
                    obtain ⟨rfl, rfl, rfl, rfl⟩ := dq10p01 hr (by omega) (by omega) (by omega)
                    obtain ⟨rfl, rfl, rfl, rfl⟩ := dq01p01 hy (by omega) (by omega) (by omega) (by omega) (by omega)
                    obtain ⟨rfl, rfl, rfl, rfl⟩ := dq11p11 hw (by omega) (by omega) (by omega) (by omega)
                    refine ⟨?_, ?_, ?_, ?_, ?_, ?_⟩ <;> omega
                  · obtain ⟨rfl, rfl, rfl, rfl⟩ := dq11p01 hx (by omega) (by omega) (by omega) (by omega)
                    obtain ⟨rfl, rfl, rfl, rfl⟩ := dq10p01 hr (by omega) (by omega) (by omega)
                    obtain ⟨rfl, rfl, rfl, rfl⟩ := dq00p01 hy (by omega) (by omega) (by omega) (by omega)
                    obtain ⟨rfl, rfl, rfl, rfl⟩ := dq11p11 hw (by omega) (by omega) (by omega) (by omega)
                    refine ⟨?_, ?_, ?_, ?_, ?_, ?_⟩ <;> omega
                · obtain ⟨rfl, rfl, rfl, rfl⟩ := dq11n hx (by omega) (by omega) (by omega)
                  obtain ⟨rfl, rfl, rfl, rfl⟩ := dq10p01 hr (by omega) (by omega) (by omega)
                  obtain ⟨rfl, rfl, rfl, rfl⟩ := dq01p01 hy (by omega) (by omega) (by omega) (by omega) (by omega)
                  obtain ⟨rfl, rfl, rfl, rfl⟩ := dq11n hw (by omega) (by omega) (by omega)
                  refine ⟨?_, ?_, ?_, ?_, ?_, ?_⟩ <;> omega
              · obtain ⟨rfl, rfl, rfl, rfl⟩ := dq01p00 hq (by omega) (by omega) (by omega) (by omega) (by omega)
                obtain ⟨rfl, rfl, rfl, rfl⟩ := dq11n hx (by omega) (by omega) (by omega)
                obtain ⟨rfl, rfl, rfl, rfl⟩ := dq10p01 hr (by omega) (by omega) (by omega)
                obtain ⟨rfl, rfl, rfl, rfl⟩ := dq01p00 hy (by omega) (by omega) (by omega) (by omega) (by omega)
                obtain ⟨rfl, rfl, rfl, rfl⟩ := dq10n hw (by omega) (by omega) (by omega)
                refine ⟨?_, ?_, ?_, ?_, ?_, ?_⟩ <;> omega
          · obtain ⟨rfl, rfl, rfl, rfl⟩ := dq01n hq (by omega) (by omega) (by omega)
            obtain ⟨rfl, rfl, rfl, rfl⟩ := dq11n hx (by omega) (by omega) (by omega)
            rcases Int.le_total 0 (a - d - e + f) with k | k
            · rcases Int.le_total 0 (-a + d + e) with k | k
              · obtain ⟨rfl, rfl, rfl, rfl⟩ := dq11p11 hr (by omega) (by omega) (by omega) (by omega)
                obtain ⟨rfl, rfl, rfl, rfl⟩ := dq01p10 hy (by omega) (by omega) (by omega) (by omega) (by omega)
                obtain ⟨rfl, rfl, rfl, rfl⟩ := dq10p01 hw (by omega) (by omega) (by omega)
                refine ⟨?_, ?_, ?_, ?_, ?_, ?_⟩ <;> omega
              · obtain ⟨rfl, rfl, rfl, rfl⟩ := dq11p01 hr (by omega) (by omega) (by omega) (by omega)
                obtain ⟨rfl, rfl, rfl, rfl⟩ := dq01p00 hy (by omega) (by omega) (by omega) (by omega) (by omega)
                obtain ⟨rfl, rfl, rfl, rfl⟩ := dq10p01 hw (by omega) (by omega) (by omega)
                refine ⟨?_, ?_, ?_, ?_, ?_, ?_⟩ <;> omega
            · obtain ⟨rfl, rfl, rfl, rfl⟩ := dq11n hr (by omega) (by omega) (by omega)
              obtain ⟨rfl, rfl, rfl, rfl⟩ := dq01n hy (by omega) (by omega) (by omega)
              obtain ⟨rfl, rfl, rfl, rfl⟩ := dq10p01 hw (by omega) (by omega) (by omega)
              refine ⟨?_, ?_, ?_, ?_, ?_, ?_⟩ <;> omega
        · rcases Int.le_total 0 (c - d - e) with k | k
          · rcases Int.le_total 0 (c - e) with k | k
            · obtain ⟨rfl, rfl, rfl, rfl⟩ := dq00p01 hq (by omega) (by omega) (by omega) (by omega)
              rcases Int.le_total 0 (c + d - e) with k | k
              · obtain ⟨rfl, rfl, rfl, rfl⟩ := dq10p01 hx (by omega) (by omega) (by omega)
                obtain ⟨rfl, rfl, rfl, rfl⟩ := dq10p01 hr (by omega) (by omega) (by omega)
                obtain ⟨rfl, rfl, rfl, rfl⟩ := dq00p01 hy (by omega) (by omega) (by omega) (by omega)
                obtain ⟨rfl, rfl, rfl, rfl⟩ := dq11p11 hw (by omega) (by omega) (by omega) (by omega)
                refine ⟨?_, ?_, ?_, ?_, ?_, ?_⟩ <;> omega
              · obtain ⟨rfl, rfl, rfl, rfl⟩ := dq10n hx (by omega) (by omega) (by omega)
                obtain ⟨rfl, rfl, rfl, rfl⟩ := dq10p01 hr (by omega) (by omega) (by omega)
                obtain ⟨rfl, rfl, rfl, rfl⟩ := dq00p01 hy (by omega) (by omega) (by omega) (by omega)
                obtain ⟨rfl, rfl, rfl, rfl⟩ := dq11n hw (by omega) (by omega) (by omega)
                refine ⟨?_, ?_, ?_, ?_, ?_, ?_⟩ <;> omega
            · obtain ⟨rfl, rfl, rfl, rfl⟩ := dq00p00 hq (by omega) (by omega) (by omega) (by omega)
              obtain ⟨rfl, rfl, rfl, rfl⟩ := dq10n hx (by omega) (by omega) (by omega)
              obtain ⟨rfl, rfl, rfl, rfl⟩ := dq10p01 hr (by omega) (by omega) (by omega)
              obtain ⟨rfl, rfl, rfl, rfl⟩ := dq00p00 hy (by omega) (by omega) (by omega) (by omega)
              obtain ⟨rfl, rfl, rfl, rfl⟩ := dq10n hw (by omega) (by omega) (by omega)
              refine ⟨?_, ?_, ?_, ?_, ?_, ?_⟩ <;> omega
          · obtain ⟨rfl, rfl, rfl, rfl⟩ := dq00n hq (by omega) (by omega) (by omega)
            obtain ⟨rfl, rfl, rfl, rfl⟩ := dq10n hx (by omega) (by omega) (by omega)
            rcases Int.le_total 0 (a - d - e) with k | k
            · obtain ⟨rfl, rfl, rfl, rfl⟩ := dq10p01 hr (by omega) (by omega) (by omega)
              obtain ⟨rfl, rfl, rfl, rfl⟩ := dq00p00 hy (by omega) (by omega) (by omega) (by omega)
              obtain ⟨rfl, rfl, rfl, rfl⟩ := dq10p01 hw (by omega) (by omega) (by omega)
              refine ⟨?_, ?_, ?_, ?_, ?_, ?_⟩ <;> omega
            · obtain ⟨rfl, rfl, rfl, rfl⟩ := dq10n hr (by omega) (by omega) (by omega)
              obtain ⟨rfl, rfl, rfl, rfl⟩ := dq00n hy (by omega) (by omega) (by omega)
              obtain ⟨rfl, rfl, rfl, rfl⟩ := dq10p01 hw (by omega) (by omega) (by omega)
              refine ⟨?_, ?_, ?_, ?_, ?_, ?_⟩ <;> omega
      · obtain ⟨rfl, rfl, rfl, rfl⟩ := dq10n hp (by omega) (by omega) (by omega)
        rcases Int.le_total 0 (f) with k | k
        · rcases Int.le_total 0 (c - d - e + f) with k | k
          · rcases Int.le_total 0 (-c + d + e) with k | k
            · rcases Int.le_total 0 (c - e + f) with k | k
              · obtain ⟨rfl, rfl, rfl, rfl⟩ := dq01p11 hq (by omega) (by omega) (by omega) (by omega) (by omega)
                rcases Int.le_total 0 (a + d - e + f) with k | k
                · obtain ⟨rfl, rfl, rfl, rfl⟩ := dq11p11 hx (by omega) (by omega) (by omega) (by omega)
                  obtain ⟨rfl, rfl, rfl, rfl⟩ := dq11n hr (by omega) (by omega) (by omega)
                  obtain ⟨rfl, rfl, rfl, rfl⟩ := dq01p11 hy (by omega) (by omega) (by omega) (by omega) (by omega)
                  obtain ⟨rfl, rfl, rfl, rfl⟩ := dq11p11 hw (by omega) (by omega) (by omega) (by omega)
                  refine ⟨?_, ?_, ?_, ?_, ?_, ?_⟩ <;> omega
                · obtain ⟨rfl, rfl, rfl, rfl⟩ := dq11n hx (by omega) (by omega) (by omega)
                  obtain ⟨rfl, rfl, rfl, rfl⟩ := dq11n hr (by omega) (by omega) (by omega)
                  obtain ⟨rfl, rfl, rfl, rfl⟩ := dq01p11 hy (by omega) (by omega) (by omega) (by omega) (by omega)
                  obtain ⟨rfl, rfl, rfl, rfl⟩ := dq11n hw (by omega) (by omega) (by omega)
                  refine ⟨?_, ?_, ?_, ?_, ?_, ?_⟩ <;> omega
              · obtain ⟨rfl, rfl, rfl, rfl⟩ := dq01p10 hq (by omega) (by omega) (by omega) (by omega) (by omega)
                obtain ⟨rfl, rfl, rfl, rfl⟩ := dq11n hx (by omega) (by omega) (by omega)
                obtain ⟨rfl, rfl, rfl, rfl⟩ := dq11n hr (by omega) (by omega) (by omega)
                obtain ⟨rfl, rfl, rfl, rfl⟩ := dq01p10 hy (by omega) (by omega) (by omega) (by omega) (by omega)
                obtain ⟨rfl, rfl, rfl, rfl⟩ := dq10n hw (by omega) (by omega) (by omega)
                refine ⟨?_, ?_, ?_, ?_, ?_, ?_⟩ <;> omega
            · rcases Int.le_total 0 (c - e + f) with k | k
              · obtain ⟨rfl, rfl, rfl, rfl⟩ := dq01p01 hq (by omega) (by omega) (by omega) (by omega) (by omega)
                rcases Int.le_total 0 (a + d - e + f) with k | k
                · rcases Int.le_total 0 (-a - d + e) with k | k
                  · obtain ⟨rfl, rfl, rfl, rfl⟩ := dq11p11 hx (by omega) (by omega) (by omega) (by omega)
                    obtain ⟨rfl, rfl, rfl, rfl⟩ := dq10n hr (by omega) (by omega) (by omega)
                    obtain ⟨rfl, rfl, rfl, rfl⟩ := dq01p01 hy (by omega) (by omega) (by omega) (by omega) (by omega)
                    obtain ⟨rfl, rfl, rfl, rfl⟩ := dq11p11 hw (by omega) (by omega) (by omega) (by omega)
                    refine ⟨?_, ?_, ?_, ?_, ?_, ?_⟩ <;> omega
                  · obtain ⟨rfl, rfl, rfl, rfl⟩ := dq11p01 hx (by omega) (by omega) (by omega) (by omega)
                    obtain ⟨rfl, rfl, rfl, rfl⟩ := dq10n hr (by omega) (by omega) (by omega)
                    obtain ⟨rfl, rfl, rfl, rfl⟩ := dq00p01 hy (by omega) (by omega) (by omega) (by omega)
                    obtain ⟨rfl, rfl, rfl, rfl⟩ := dq11p11 hw (by omega) (by omega) (by omega) (by omega)
                    refine ⟨?_, ?_, ?_, ?_, ?_, ?_⟩ <;> omega
                · obtain ⟨rfl, rfl, rfl, rfl⟩ := dq11n hx (by omega) (by omega) (by omega)
                  obtain ⟨rfl, rfl, rfl, rfl⟩ := dq10n hr (by omega) (by omega) (by omega)
                  obtain ⟨rfl, rfl, rfl, rfl⟩ := dq01p01 hy (by omega) (by omega) (by omega) (by omega) (by omega)
                  obtain ⟨rfl, rfl, rfl, rfl⟩ := dq11n hw (by omega) (by omega) (by omega)
                  refine ⟨?_, ?_, ?_, ?_, ?_, ?_⟩ <;> omega
              · obtain ⟨rfl, rfl, rfl, rfl⟩ := dq01p00 hq (by omega) (by omega) (by omega) (by omega) (by omega)
                obtain ⟨rfl, rfl, rfl, rfl⟩ := dq11n hx (by omega) (by omega) (by omega)
                obtain ⟨rfl, rfl, rfl, rfl⟩ := dq10n hr (by omega) (by omega) (by omega)
                obtain ⟨rfl, rfl, rfl, rfl⟩ := dq01p00 hy (by omega) (by omega) (by omega) (by omega) (by omega)
                obtain ⟨rfl, rfl, rfl, rfl⟩ := dq10n hw (by omega) (by omega) (by omega)
                refine ⟨?_, ?_, ?_, ?_, ?_, ?_⟩ <;> omega
          · obtain ⟨rfl, rfl, rfl, rfl⟩ := dq01n hq (by omega) (by omega) (by omega)
            obtain ⟨rfl, rfl, rfl, rfl⟩ := dq11n hx (by omega) (by omega) (by omega)
            obtain ⟨rfl, rfl, rfl, rfl⟩ := dq11n hr (by omega) (by omega) (by omega)
            obtain ⟨rfl, rfl, rfl, rfl⟩ := dq01n hy (by omega) (by omega) (by omega)
            obtain ⟨rfl, rfl, rfl, rfl⟩ := dq10n hw (by omega) (by omega) (by omega)
            refine ⟨?_, ?_, ?_, ?_, ?_, ?_⟩ <;> omega
        · rcases Int.le_total 0 (c - d - e) with k | k
          · rcases Int.le_total 0 (c - e) with k | k
            · obtain ⟨rfl, rfl, rfl, rfl⟩ := dq00p01 hq (by omega) (by omega) (by omega) (by omega)
              rcases Int.le_total 0 (a + d - e) with k | k
              · obtain ⟨rfl, rfl, rfl, rfl⟩ := dq10p01 hx (by omega) (by omega) (by omega)
                obtain ⟨rfl, rfl, rfl, rfl⟩ := dq10n hr (by omega) (by omega) (by omega)
                obtain ⟨rfl, rfl, rfl, rfl⟩ := dq00p01 hy (by omega) (by omega) (by omega) (by omega)
                obtain ⟨rfl, rfl, rfl, rfl⟩ := dq11p11 hw (by omega) (by omega) (by omega) (by omega)
                refine ⟨?_, ?_, ?_, ?_, ?_, ?_⟩ <;> omega
              · obtain ⟨rfl, rfl, rfl, rfl⟩ := dq10n hx (by omega) (by omega) (by omega)
                obtain ⟨rfl, rfl, rfl, rfl⟩ := dq10n hr (by omega) (by omega) (by omega)
                obtain ⟨rfl, rfl, rfl, rfl⟩ := dq00p01 hy (by omega) (by omega) (by omega) (by omega)
                obtain ⟨rfl, rfl, rfl, rfl⟩ := dq11n hw (by omega) (by omega) (by omega)
                refine ⟨?_, ?_, ?_, ?_, ?_, ?_⟩ <;> omega
            · obtain ⟨rfl, rfl, rfl, rfl⟩ := dq00p00 hq (by omega) (by omega) (by omega) (by omega)
              obtain ⟨rfl, rfl, rfl, rfl⟩ := dq10n hx (by omega) (by omega) (by omega)
              obtain ⟨rfl, rfl, rfl, rfl⟩ := dq10n hr (by omega) (by omega) (by omega)
              obtain ⟨rfl, rfl, rfl, rfl⟩ := dq00p00 hy (by omega) (by omega) (by omega) (by omega)
              obtain ⟨rfl, rfl, rfl, rfl⟩ := dq10n hw (by omega) (by omega) (by omega)
              refine ⟨?_, ?_, ?_, ?_, ?_, ?_⟩ <;> omega
          · obtain ⟨rfl, rfl, rfl, rfl⟩ := dq00n hq (by omega) (by omega) (by omega)
            obtain ⟨rfl, rfl, rfl, rfl⟩ := dq10n hx (by omega) (by omega) (by omega)
            obtain ⟨rfl, rfl, rfl, rfl⟩ := dq10n hr (by omega) (by omega) (by omega)
            obtain ⟨rfl, rfl, rfl, rfl⟩ := dq00n hy (by omega) (by omega) (by omega)
            obtain ⟨rfl, rfl, rfl, rfl⟩ := dq10n hw (by omega) (by omega) (by omega)
            refine ⟨?_, ?_, ?_, ?_, ?_, ?_⟩ <;> omega
  · rcases Int.le_total 0 (d) with k | k
    · rcases Int.le_total 0 (a - b - c + d) with k | k
      · rcases Int.le_total 0 (-a + b + c) with k | k
        · rcases Int.le_total 0 (a - c + d) with k | k
          · obtain ⟨rfl, rfl, rfl, rfl⟩ := dq01p11 hp (by omega) (by omega) (by omega) (by omega) (by omega)
            rcases Int.le_total 0 (f) with k | k
            · rcases Int.le_total 0 (c - e + f) with k | k
              · rcases Int.le_total 0 (-c + e) with k | k
                · obtain ⟨rfl, rfl, rfl, rfl⟩ := dq11p11 hq (by omega) (by omega) (by omega) (by omega)
                  obtain ⟨rfl, rfl, rfl, rfl⟩ := dq11p11 hx (by omega) (by omega) (by omega) (by omega)
                  obtain ⟨rfl, rfl, rfl, rfl⟩ := dq01n hr (by omega) (by omega) (by omega)
                  obtain ⟨rfl, rfl, rfl, rfl⟩ := dq11n hy (by omega) (by omega) (by omega)
                  obtain ⟨rfl, rfl, rfl, rfl⟩ := dq01p11 hw (by omega) (by omega) (by omega) (by omega) (by omega)
                  refine ⟨?_, ?_, ?_, ?_, ?_, ?_⟩ <;> omega
                · obtain ⟨rfl, rfl, rfl, rfl⟩ := dq11p01 hq (by omega) (by omega) (by omega) (by omega)
                  obtain ⟨rfl, rfl, rfl, rfl⟩ := dq11p01 hx (by omega) (by omega) (by omega) (by omega)
                  obtain ⟨rfl, rfl, rfl, rfl⟩ := dq00n hr (by omega) (by omega) (by omega)
                  obtain ⟨rfl, rfl, rfl, rfl⟩ := dq10n hy (by omega) (by omega) (by omega)
                  obtain ⟨rfl, rfl, rfl, rfl⟩ := dq01p11 hw (by omega) (by omega) (by omega) (by omega) (by omega)
                  refine ⟨?_, ?_, ?_, ?_, ?_, ?_⟩ <;> omega
              · obtain ⟨rfl, rfl, rfl, rfl⟩ := dq11n hq (by omega) (by omega) (by omega)
                obtain ⟨rfl, rfl, rfl, rfl⟩ := dq11n hx (by omega) (by omega) (by omega)
                obtain ⟨rfl, rfl, rfl, rfl⟩ := dq01n hr (by omega) (by omega) (by omega)
                obtain ⟨rfl, rfl, rfl, rfl⟩ := dq11n hy (by omega) (by omega) (by omega)
                obtain ⟨rfl, rfl, rfl, rfl⟩ := dq01p11 hw (by omega) (by omega) (by omega) (by omega) (by omega)
                refine ⟨?_, ?_, ?_, ?_, ?_, ?_⟩ <;> omega
            · rcases Int.le_total 0 (c - e) with k | k
              · obtain ⟨rfl, rfl, rfl, rfl⟩ := dq10p01 hq (by omega) (by omega) (by omega)
                obtain ⟨rfl, rfl, rfl, rfl⟩ := dq10p01 hx (by omega) (by omega) (by omega)
                obtain ⟨rfl, rfl, rfl, rfl⟩ := dq00n hr (by omega) (by omega) (by omega)
                obtain ⟨rfl, rfl, rfl, rfl⟩ := dq10n hy (by omega) (by omega) (by omega)
                obtain ⟨rfl, rfl, rfl, rfl⟩ := dq01p11 hw (by omega) (by omega) (by omega) (by omega) (by omega)
                refine ⟨?_, ?_, ?_, ?_, ?_, ?_⟩ <;> omega
              · obtain ⟨rfl, rfl, rfl, rfl⟩ := dq10n hq (by omega) (by omega) (by omega)
                obtain ⟨rfl, rfl, rfl, rfl⟩ := dq10n hx (by omega) (by omega) (by omega)
                obtain ⟨rfl, rfl, rfl, rfl⟩ := dq00n hr (by omega) (by omega) (by omega)
                obtain ⟨rfl, rfl, rfl, rfl⟩ := dq10n hy (by omega) (by omega) (by omega)
                obtain ⟨rfl, rfl, rfl, rfl⟩ := dq01p11 hw (by omega) (by omega) (by omega) (by omega) (by omega)
                refine ⟨?_, ?_, ?_, ?_, ?_, ?_⟩ <;> omega
          · obtain ⟨rfl, rfl, rfl, rfl⟩ := dq01p10 hp (by omega) (by omega) (by omega) (by omega) (by omega)
            rcases Int.le_total 0 (f) with k | k
            · rcases Int.le_total 0 (c - e + f) with k | k
              · rcases Int.le_total 0 (-c + e) with k | k
                · obtain ⟨rfl, rfl, rfl, rfl⟩ := dq11p11 hq (by omega) (by omega) (by omega) (by omega)
                  rcases Int.le_total 0 (a + d - e + f) with k | k
                  · obtain ⟨rfl, rfl, rfl, rfl⟩ := dq01p11 hx (by omega) (by omega) (by omega) (by omega) (by omega)
                    obtain ⟨rfl, rfl, rfl, rfl⟩ := dq01n hr (by omega) (by omega) (by omega)
                    obtain ⟨rfl, rfl, rfl, rfl⟩ := dq11n hy (by omega) (by omega) (by omega)
                    obtain ⟨rfl, rfl, rfl, rfl⟩ := dq01p11 hw (by omega) (by omega) (by omega) (by omega) (by omega)
                    refine ⟨?_, ?_, ?_, ?_, ?_, ?_⟩ <;> omega
                  · obtain ⟨rfl, rfl, rfl, rfl⟩ := dq01p10 hx (by omega) (by omega) (by omega) (by omega) (by omega)
                    obtain ⟨rfl, rfl, rfl, rfl⟩ := dq01n hr (by omega) (by omega) (by omega)
                    obtain ⟨rfl, rfl, rfl, rfl⟩ := dq11n hy (by omega) (by omega) (by omega)
                    obtain ⟨rfl, rfl, rfl, rfl⟩ := dq01p10 hw (by omega) (by omega) (by omega) (by omega) (by omega)
                    refine ⟨?_, ?_, ?_, ?_, ?_, ?_⟩ <;> omega
                · obtain ⟨rfl, rfl, rfl, rfl⟩ := dq11p01 hq (by omega) (by omega) (by omega) (by omega)
                  rcases Int.le_total 0 (a + d - e + f) with k | k
                  · obtain ⟨rfl, rfl, rfl, rfl⟩ := dq01p01 hx (by omega) (by omega) (by omega) (by omega) (by omega)
                    obtain ⟨rfl, rfl, rfl, rfl⟩ := dq00n hr (by omega) (by omega) (by omega)
                    obtain ⟨rfl, rfl, rfl, rfl⟩ := dq10n hy (by omega) (by omega) (by omega)
                    obtain ⟨rfl, rfl, rfl, rfl⟩ := dq01p11 hw (by omega) (by omega) (by omega) (by omega) (by omega)
                    refine ⟨?_, ?_, ?_, ?_, ?_, ?_⟩ <;> omega
                  · obtain ⟨rfl, rfl, rfl, rfl⟩ := dq01p00 hx (by omega) (by omega) (by omega) (by omega) (by omega)
                    obtain ⟨rfl, rfl, rfl, rfl⟩ := dq00n hr (by omega) (by omega) (by omega)
                    obtain ⟨rfl, rfl, rfl, rfl⟩ := dq10n hy (by omega) (by omega) (by omega)
                    obtain ⟨rfl, rfl, rfl, rfl⟩ := dq01p10 hw (by omega) (by omega) (by omega) (by omega) (by omega)
                    refine ⟨?_, ?_, ?_, ?_, ?_, ?_⟩ <;> omega
              · obtain ⟨rfl, rfl, rfl, rfl⟩ := dq11n hq (by omega) (by omega) (by omega)
                obtain ⟨rfl, rfl, rfl, rfl⟩ := dq01n hx (by omega) (by omega) (by omega)
                obtain ⟨rfl, rfl, rfl, rfl⟩ := dq01n hr (by omega) (by omega) (by omega)
                obtain ⟨rfl, rfl, rfl, rfl⟩ := dq11n hy (by omega) (by omega) (by omega)
                obtain ⟨rfl, rfl, rfl, rfl⟩ := dq01p10 hw (by omega) (by omega) (by omega) (by omega) (by omega)
                refine ⟨?_, ?_, ?_, ?_, ?_, ?_⟩ <;> omega
            · rcases Int.le_total 0 (c - e) with k | k
              · obtain ⟨rfl, rfl, rfl, rfl⟩ := dq10p01 hq (by omega) (by omega) (by omega)
                rcases Int.le_total 0 (a + d - e) with k | k
                · obtain ⟨rfl, rfl, rfl, rfl⟩ := dq00p01 hx (by omega) (by omega) (by omega) (by omega)
                  obtain ⟨rfl, rfl, rfl, rfl⟩ := dq00n hr (by omega) (by omega) (by omega)
                  obtain ⟨rfl, rfl, rfl, rfl⟩ := dq10n hy (by omega) (by omega) (by omega)
                  obtain ⟨rfl, rfl, rfl, rfl⟩ := dq01p11 hw (by omega) (by omega) (by omega) (by omega) (by omega)
                  refine ⟨?_, ?_, ?_, ?_, ?_, ?_⟩ <;> omega
                · obtain ⟨rfl, rfl, rfl, rfl⟩ := dq00p00 hx (by omega) (by omega) (by omega) (by omega)
                  obtain ⟨rfl, rfl, rfl, rfl⟩ := dq00n hr (by omega) (by omega) (by omega)
                  obtain ⟨rfl, rfl, rfl, rfl⟩ := dq10n hy (by omega) (by omega) (by omega)
                  obtain ⟨rfl, rfl, rfl, rfl⟩ := dq01p10 hw (by omega) (by omega) (by omega) (by omega) (by omega)
                  refine ⟨?_, ?_, ?_, ?_, ?_, ?_⟩ <;> omega
              · obtain ⟨rfl, rfl, rfl, rfl⟩ := dq10n hq (by omega) (by omega) (by omega)
                obtain ⟨rfl, rfl, rfl, rfl⟩ := dq00n hx (by omega) (by omega) (by omega)
                obtain ⟨rfl, rfl, rfl, rfl⟩ := dq00n hr (by omega) (by omega) (by omega)
                obtain ⟨rfl, rfl, rfl, rfl⟩ := dq10n hy (by omega) (by omega) (by omega)
                obtain ⟨rfl, rfl, rfl, rfl⟩ := dq01p10 hw (by omega) (by omega) (by omega) (by omega) (by omega)
                refine ⟨?_, ?_, ?_, ?_, ?_, ?_⟩ <;> omega
        · rcases Int.le_total 0 (a - c + d) with k | k
          · obtain ⟨rfl, rfl, rfl, rfl⟩ := dq01p01 hp (by omega) (by omega) (by omega) (by omega) (by omega)
            rcases Int.le_total 0 (f) with k | k
            · rcases Int.le_total 0 (c - e + f) with k | k
              · rcases Int.le_total 0 (-c + e) with k | k
                · obtain ⟨rfl, rfl, rfl, rfl⟩ := dq11p11 hq (by omega) (by omega) (by omega) (by omega)
                  obtain ⟨rfl, rfl, rfl, rfl⟩ := dq11p11 hx (by omega) (by omega) (by omega) (by omega)
                  rcases Int.le_total 0 (a - b - c - d) with k | k
                  · rcases Int.le_total 0 (-a + b + d + e) with k | k
                    · rcases Int.le_total 0 (a - c - d) with k | k
                      · obtain ⟨rfl, rfl, rfl, rfl⟩ := dq01p11 hr (by omega) (by omega) (by omega) (by omega) (by omega)
                        obtain ⟨rfl, rfl, rfl, rfl⟩ := dq01p10 hy (by omega) (by omega) (by omega) (by omega) (by omega)
                        obtain ⟨rfl, rfl, rfl, rfl⟩ := dq11p01 hw (by omega) (by omega) (by omega) (by omega)
                        refine ⟨?_, ?_, ?_, ?_, ?_, ?_⟩ <;> omega
                      · obtain ⟨rfl, rfl, rfl, rfl⟩ := dq01p10 hr (by omega) (by omega) (by omega) (by omega) (by omega)
                        obtain ⟨rfl, rfl, rfl, rfl⟩ := dq01p10 hy (by omega) (by omega) (by omega) (by omega) (by omega)
                        obtain ⟨rfl, rfl, rfl, rfl⟩ := dq01p01 hw (by omega) (by omega) (by omega) (by omega) (by omega)
                        refine ⟨?_, ?_, ?_, ?_, ?_, ?_⟩ <;> omega
                    · rcases Int.le_total 0 (a - c - d) with k | k
                      · obtain ⟨rfl, rfl, rfl, rfl⟩ := dq01p01 hr (by omega) (by omega) (by omega) (by omega) (by omega)
                        obtain ⟨rfl, rfl, rfl, rfl⟩ := dq01p00 hy (by omega) (by omega) (by omega) (by omega) (by omega)
                        obtain ⟨rfl, rfl, rfl, rfl⟩ := dq11p01 hw (by omega) (by omega) (by omega) (by omega)
                        refine ⟨?_, ?_, ?_, ?_, ?_, ?_⟩ <;> omega
                      · obtain ⟨rfl, rfl, rfl, rfl⟩ := dq01p00 hr (by omega) (by omega) (by omega) (by omega) (by omega)
                        obtain ⟨rfl, rfl, rfl, rfl⟩ := dq01p00 hy (by omega) (by omega) (by omega) (by omega) (by omega)
                        obtain ⟨rfl, rfl, rfl, rfl⟩ := dq01p01 hw (by omega) (by omega) (by omega) (by omega) (by omega)
                        refine ⟨?_, ?_, ?_, ?_, ?_, ?_⟩ <;> omega
                  · obtain ⟨rfl, rfl, rfl, rfl⟩ := dq01n hr (by omega) (by omega) (by omega)
                    obtain ⟨rfl, rfl, rfl, rfl⟩ := dq01n hy (by omega) (by omega) (by omega)
                    obtain ⟨rfl, rfl, rfl, rfl⟩ := dq01p01 hw (by omega) (by omega) (by omega) (by omega) (by omega)
                    refine ⟨?_, ?_, ?_, ?_, ?_, ?_⟩ <;> omega
                · obtain ⟨rfl, rfl, rfl, rfl⟩ := dq11p01 hq (by omega) (by omega) (by omega) (by omega)
                  obtain ⟨rfl, rfl, rfl, rfl⟩ := dq11p01 hx (by omega) (by omega) (by omega) (by omega)
                  rcases Int.le_total 0 (a - b - c - d) with k | k
                  · rcases Int.le_total 0 (a - c - d) with k | k
                    · obtain ⟨rfl, rfl, rfl, rfl⟩ := dq00p01 hr (by omega) (by omega) (by omega) (by omega)
                      obtain ⟨rfl, rfl, rfl, rfl⟩ := dq00p00 hy (by omega) (by omega) (by omega) (by omega)
                      obtain ⟨rfl, rfl, rfl, rfl⟩ := dq11p01 hw (by omega) (by omega) (by omega) (by omega)
                      refine ⟨?_, ?_, ?_, ?_, ?_, ?_⟩ <;> omega
                    · obtain ⟨rfl, rfl, rfl, rfl⟩ := dq00p00 hr (by omega) (by omega) (by omega) (by omega)
                      obtain ⟨rfl, rfl, rfl, rfl⟩ := dq00p00 hy (by omega) (by omega) (by omega) (by omega)
                      obtain ⟨rfl, rfl, rfl, rfl⟩ := dq01p01 hw (by omega) (by omega) (by omega) (by omega) (by omega)
                      refine ⟨?_, ?_, ?_, ?_, ?_, ?_⟩ <;> omega
                  · obtain ⟨rfl, rfl, rfl, rfl⟩ := dq00n hr (by omega) (by omega) (by omega)
                    obtain ⟨rfl, rfl, rfl, rfl⟩ := dq00n hy (by omega) (by omega) (by omega)
                    obtain ⟨rfl, rfl, rfl, rfl⟩ := dq01p01 hw (by omega) (by omega) (by omega) (by omega) (by omega)
                    refine ⟨?_, ?_, ?_, ?_, ?_, ?_⟩ <;> omega
              · obtain ⟨rfl, rfl, rfl, rfl⟩ := dq11n hq (by omega) (by omega) (by omega)
                obtain ⟨rfl, rfl, rfl, rfl⟩ := dq11n hx (by omega) (by omega) (by omega)
                rcases Int.le_total 0 (a - b - d - e + f) with k | k
                · rcases Int.le_total 0 (-a + b + d + e) with k | k
                  · rcases Int.le_total 0 (a - d - e + f) with k | k
                    · obtain ⟨rfl, rfl, rfl, rfl⟩ := dq01p11 hr (by omega) (by omega) (by omega) (by omega) (by omega)
                      obtain ⟨rfl, rfl, rfl, rfl⟩ := dq01p10 hy (by omega) (by omega) (by omega) (by omega) (by omega)
                      obtain ⟨rfl, rfl, rfl, rfl⟩ := dq11p01 hw (by omega) (by omega) (by omega) (by omega)
                      refine ⟨?_, ?_, ?_, ?_, ?_, ?_⟩ <;> omega
                    · obtain ⟨rfl, rfl, rfl, rfl⟩ := dq01p10 hr (by omega) (by omega) (by omega) (by omega) (by omega)
                      obtain ⟨rfl, rfl, rfl, rfl⟩ := dq01p10 hy (by omega) (by omega) (by omega) (by omega) (by omega)
                      obtain ⟨rfl, rfl, rfl, rfl⟩ := dq01p01 hw (by omega) (by omega) (by omega) (by omega) (by omega)
                      refine ⟨?_, ?_, ?_, ?_, ?_, ?_⟩ <;> omega
                  · rcases Int.le_total 0 (a - d - e + f) with k | k
                    · obtain ⟨rfl, rfl, rfl, rfl⟩ := dq01p01 hr (by omega) (by omega) (by omega) (by omega) (by omega)
                      obtain ⟨rfl, rfl, rfl, rfl⟩ := dq01p00 hy (by omega) (by omega) (by omega) (by omega) (by omega)
                      obtain ⟨rfl, rfl, rfl, rfl⟩ := dq11p01 hw (by omega) (by omega) (by omega) (by omega)
                      refine ⟨?_, ?_, ?_, ?_, ?_, ?_⟩ <;> omega
                    · obtain ⟨rfl, rfl, rfl, rfl⟩ := dq01p00 hr (by omega) (by omega) (by omega) (by omega) (by omega)
                      obtain ⟨rfl, rfl, rfl, rfl⟩ := dq01p00 hy (by omega) (by omega) (by omega) (by omega) (by omega)
                      obtain ⟨rfl, rfl, rfl, rfl⟩ := dq01p01 hw (by omega) (by omega) (by omega) (by omega) (by omega)
                      refine ⟨?_, ?_, ?_, ?_, ?_, ?_⟩ <;> omega
                · obtain ⟨rfl, rfl, rfl, rfl⟩ := dq01n hr (by omega) (by omega) (by omega)
                  obtain ⟨rfl, rfl, rfl, rfl⟩ := dq01n hy (by omega) (by omega) (by omega)
                  obtain ⟨rfl, rfl, rfl, rfl⟩ := dq01p01 hw (by omega) (by omega) (by omega) (by omega) (by omega)
                  refine ⟨?_, ?_, ?_, ?_, ?_, ?_⟩ <;> omega
            · rcases Int.le_total 0 (c - e) with k | k
              · obtain ⟨rfl, rfl, rfl, rfl⟩ := dq10p01 hq (by omega) (by omega) (by omega)
                obtain ⟨rfl, rfl, rfl, rfl⟩ := dq10p01 hx (by omega) (by omega) (by omega)
                rcases Int.le_total 0 (a - b - c - d) with k | k
                · rcases Int.le_total 0 (a - c - d) with k | k
                  · obtain ⟨rfl, rfl, rfl, rfl⟩ := dq00p01 hr (by omega) (by omega) (by omega) (by omega)
                    obtain ⟨rfl, rfl, rfl, rfl⟩ := dq00p00 hy (by omega) (by omega) (by omega) (by omega)
                    obtain ⟨rfl, rfl, rfl, rfl⟩ := dq11p01 hw (by omega) (by omega) (by omega) (by omega)
                    refine ⟨?_, ?_, ?_, ?_, ?_, ?_⟩ <;> omega
                  · obtain ⟨rfl, rfl, rfl, rfl⟩ := dq00p00 hr (by omega) (by omega) (by omega) (by omega)
                    obtain ⟨rfl, rfl, rfl, rfl⟩ := dq00p00 hy (by omega) (by omega) (by omega) (by omega)
                    obtain ⟨rfl, rfl, rfl, rfl⟩ := dq01p01 hw (by omega) (by omega) (by omega) (by omega) (by omega)
                    refine ⟨?_, ?_, ?_, ?_, ?_, ?_⟩ <;> omega
                · obtain ⟨rfl, rfl, rfl, rfl⟩ := dq00n hr (by omega) (by omega) (by omega)
                  obtain ⟨rfl, rfl, rfl, rfl⟩ := dq00n hy (by omega) (by omega) (by omega)
                  obtain ⟨rfl, rfl, rfl, rfl⟩ := dq01p01 hw (by omega) (by omega) (by omega) (by omega) (by omega)
                  refine ⟨?_, ?_, ?_, ?_, ?_, ?_⟩ <;> omega
              · obtain ⟨rfl, rfl, rfl, rfl⟩ := dq10n hq (by omega) (by omega) (by omega)
                obtain ⟨rfl, rfl, rfl, rfl⟩ := dq10n hx (by omega) (by omega) (by omega)
                rcases Int.le_total 0 (a - b - d - e) with k | k
                · rcases Int.le_total 0 (a - d - e) with k | k
                  · obtain ⟨rfl, rfl, rfl, rfl⟩ := dq00p01 hr (by omega) (by omega) (by omega) (by omega)
                    obtain ⟨rfl, rfl, rfl, rfl⟩ := dq00p00 hy (by omega) (by omega) (by omega) (by omega)
                    obtain ⟨rfl, rfl, rfl, rfl⟩ := dq11p01 hw (by omega) (by omega) (by omega) (by omega)
                    refine ⟨?_, ?_, ?_, ?_, ?_, ?_⟩ <;> omega
                  · obtain ⟨rfl, rfl, rfl, rfl⟩ := dq00p00 hr (by omega) (by omega) (by omega) (by omega)
                    obtain ⟨rfl, rfl, rfl, rfl⟩ := dq00p00 hy (by omega) (by omega) (by omega) (by omega)
                    obtain ⟨rfl, rfl, rfl, rfl⟩ := dq01p01 hw (by omega) (by omega) (by omega) (by omega) (by omega)
                    refine ⟨?_, ?_, ?_, ?_, ?_, ?_⟩ <;> omega
                · obtain ⟨rfl, rfl, rfl, rfl⟩ := dq00n hr (by omega) (by omega) (by omega)
                  obtain ⟨rfl, rfl, rfl, rfl⟩ := dq00n hy (by omega) (by omega) (by omega)
                  obtain ⟨rfl, rfl, rfl, rfl⟩ := dq01p01 hw (by omega) (by omega) (by omega) (by omega) (by omega)
                  refine ⟨?_, ?_, ?_, ?_, ?_, ?_⟩ <;> omega
          · obtain ⟨rfl, rfl, rfl, rfl⟩ := dq01p00 hp (by omega) (by omega) (by omega) (by omega) (by omega)
            rcases Int.le_total 0 (f) with k | k
            · rcases Int.le_total 0 (c - e + f) with k | k
              · rcases Int.le_total 0 (-c + e) with k | k
                · obtain ⟨rfl, rfl, rfl, rfl⟩ := dq11p11 hq (by omega) (by omega) (by omega) (by omega)
                  rcases Int.le_total 0 (a + d - e + f) with k | k
                  · obtain ⟨rfl, rfl, rfl, rfl⟩ := dq01p11 hx (by omega) (by omega) (by omega) (by omega) (by omega)
                    rcases Int.le_total 0 (a - b - c - d) with k | k
                    · rcases Int.le_total 0 (-a + b + d + e) with k | k
                      · obtain ⟨rfl, rfl, rfl, rfl⟩ := dq01p10 hr (by omega) (by omega) (by omega) (by omega) (by omega)
                        obtain ⟨rfl, rfl, rfl, rfl⟩ := dq01p10 hy (by omega) (by omega) (by omega) (by omega) (by omega)
                        obtain ⟨rfl, rfl, rfl, rfl⟩ := dq01p01 hw (by omega) (by omega) (by omega) (by omega) (by omega)
                        refine ⟨?_, ?_, ?_, ?_, ?_, ?_⟩ <;> omega
                      · obtain ⟨rfl, rfl, rfl, rfl⟩ := dq01p00 hr (by omega) (by omega) (by omega) (by omega) (by omega)
                        obtain ⟨rfl, rfl, rfl, rfl⟩ := dq01p00 hy (by omega) (by omega) (by omega) (by omega) (by omega)
                        obtain ⟨rfl, rfl, rfl, rfl⟩ := dq01p01 hw (by omega) (by omega) (by omega) (by omega) (by omega)
                        refine ⟨?_, ?_, ?_, ?_, ?_, ?_⟩ <;> omega
                    · obtain ⟨rfl, rfl, rfl, rfl⟩ := dq01n hr (by omega) (by omega) (by omega)
                      obtain ⟨rfl, rfl, rfl, rfl⟩ := dq01n hy (by omega) (by omega) (by omega)
                      obtain ⟨rfl, rfl, rfl, rfl⟩ := dq01p01 hw (by omega) (by omega) (by omega) (by omega) (by omega)
                      refine ⟨?_, ?_, ?_, ?_, ?_, ?_⟩ <;> omega
                  · obtain ⟨rfl, rfl, rfl, rfl⟩ := dq01p10 hx (by omega) (by omega) (by omega) (by omega) (by omega)
                    rcases Int.le_total 0 (a - b - c - d) with k | k
                    · rcases Int.le_total 0 (-a + b + d + e) with k | k
                      · obtain ⟨rfl, rfl, rfl, rfl⟩ := dq01p10 hr (by omega) (by omega) (by omega) (by omega) (by omega)
                        obtain ⟨rfl, rfl, rfl, rfl⟩ := dq01p10 hy (by omega) (by omega) (by omega) (by omega) (by omega)
                        obtain ⟨rfl, rfl, rfl, rfl⟩ := dq01p00 hw (by omega) (by omega) (by omega) (by omega) (by omega)
                        refine ⟨?_, ?_, ?_, ?_, ?_, ?_⟩ <;> omega
                      · obtain ⟨rfl, rfl, rfl, rfl⟩ := dq01p00 hr (by omega) (by omega) (by omega) (by omega) (by omega)
                        obtain ⟨rfl, rfl, rfl, rfl⟩ := dq01p00 hy (by omega) (by omega) (by omega) (by omega) (by omega)
                        obtain ⟨rfl, rfl, rfl, rfl⟩ := dq01p00 hw (by omega) (by omega) (by omega) (by omega) (by omega)
                        refine ⟨?_, ?_, ?_, ?_, ?_, ?_⟩ <;> omega
                    · obtain ⟨rfl, rfl, rfl, rfl⟩ := dq01n hr (by omega) (by omega) (by omega)
                      obtain ⟨rfl, rfl, rfl, rfl⟩ := dq01n hy (by omega) (by omega) (by omega)
                      obtain ⟨rfl, rfl, rfl, rfl⟩ := dq01p00 hw (by omega) (by omega) (by omega) (by omega) (by omega)
                      refine ⟨?_, ?_, ?_, ?_, ?_, ?_⟩ <;> omega
                · obtain ⟨rfl, rfl, rfl, rfl⟩ := dq11p01 hq (by omega) (by omega) (by omega) (by omega)
                  rcases Int.le_total 0 (a + d - e + f) with k | k
                  · obtain ⟨rfl, rfl, rfl, rfl⟩ := dq01p01 hx (by omega) (by omega) (by omega) (by omega) (by omega)
                    rcases Int.le_total 0 (a - b - c - d) with k | k
                    · obtain ⟨rfl, rfl, rfl, rfl⟩ := dq00p00 hr (by omega) (by omega) (by omega) (by omega)
                      obtain ⟨rfl, rfl, rfl, rfl⟩ := dq00p00 hy (by omega) (by omega) (by omega) (by omega)
                      obtain ⟨rfl, rfl, rfl, rfl⟩ := dq01p01 hw (by omega) (by omega) (by omega) (by omega) (by omega)
                      refine ⟨?_, ?_, ?_, ?_, ?_, ?_⟩ <;> omega
                    · obtain ⟨rfl, rfl, rfl, rfl⟩ := dq00n hr (by omega) (by omega) (by omega)
                      obtain ⟨rfl, rfl, rfl, rfl⟩ := dq00n hy (by omega) (by omega) (by omega)
                      obtain ⟨rfl, rfl, rfl, rfl⟩ := dq01p01 hw (by omega) (by omega) (by omega) (by omega) (by omega)
                      refine ⟨?_, ?_, ?_, ?_, ?_, ?_⟩ <;> omega
                  · obtain ⟨rfl, rfl, rfl, rfl⟩ := dq01p00 hx (by omega) (by omega) (by omega) (by omega) (by omega)
                    rcases Int.le_total 0 (a - b - c - d) with k | k
                    · obtain ⟨rfl, rfl, rfl, rfl⟩ := dq00p00 hr (by omega) (by omega) (by omega) (by omega)
                      obtain ⟨rfl, rfl, rfl, rfl⟩ := dq00p00 hy (by omega) (by omega) (by omega) (by omega)
                      obtain ⟨rfl, rfl, rfl, rfl⟩ := dq01p00 hw (by omega) (by omega) (by omega) (by omega) (by omega)
                      refine ⟨?_, ?_, ?_, ?_, ?_, ?_⟩ <;> omega
                    · obtain ⟨rfl, rfl, rfl, rfl⟩ := dq00n hr (by omega) (by omega) (by omega)
                      obtain ⟨rfl, rfl, rfl, rfl⟩ := dq00n hy (by omega) (by omega) (by omega)
                      obtain ⟨rfl, rfl, rfl, rfl⟩ := dq01p00 hw (by omega) (by omega) (by omega) (by omega) (by omega)
                      refine ⟨?_, ?_, ?_, ?_, ?_, ?_⟩ <;> omega
              · obtain ⟨rfl, rfl, rfl, rfl⟩ := dq11n hq (by omega) (by omega) (by omega)
                obtain ⟨rfl, rfl, rfl, rfl⟩ := dq01n hx (by omega) (by omega) (by omega)
                rcases Int.le_total 0 (a - b - d - e + f) with k | k
                · rcases Int.le_total 0 (-a + b + d + e) with k | k
                  · obtain ⟨rfl, rfl, rfl, rfl⟩ := dq01p10 hr (by omega) (by omega) (by omega) (by omega) (by omega)
                    obtain ⟨rfl, rfl, rfl, rfl⟩ := dq01p10 hy (by omega) (by omega) (by omega) (by omega) (by omega)
                    obtain ⟨rfl, rfl, rfl, rfl⟩ := dq01p00 hw (by omega) (by omega) (by omega) (by omega) (by omega)
                    refine ⟨?_, ?_, ?_, ?_, ?_, ?_⟩ <;> omega
                  · obtain ⟨rfl, rfl, rfl, rfl⟩ := dq01p00 hr (by omega) (by omega) (by omega) (by omega) (by omega)
                    obtain ⟨rfl, rfl, rfl, rfl⟩ := dq01p00 hy (by omega) (by omega) (by omega) (by omega) (by omega)
                    obtain ⟨rfl, rfl, rfl, rfl⟩ := dq01p00 hw (by omega) (by omega) (by omega) (by omega) (by omega)
                    refine ⟨?_, ?_, ?_, ?_, ?_, ?_⟩ <;> omega
                · obtain ⟨rfl, rfl, rfl, rfl⟩ := dq01n hr (by omega) (by omega) (by omega)
                  obtain ⟨rfl, rfl, rfl, rfl⟩ := dq01n hy (by omega) (by omega) (by omega)
                  obtain ⟨rfl, rfl, rfl, rfl⟩ := dq01p00 hw (by omega) (by omega) (by omega) (by omega) (by omega)
                  refine ⟨?_, ?_, ?_, ?_, ?_, ?_⟩ <;> omega
            · rcases Int.le_total 0 (c - e) with k | k
              · obtain ⟨rfl, rfl, rfl, rfl⟩ := dq10p01 hq (by omega) (by omega) (by omega)
                rcases Int.le_total 0 (a + d - e) with k | k
                · obtain ⟨rfl, rfl, rfl, rfl⟩ := dq00p01 hx (by omega) (by omega) (by omega) (by omega)
                  rcases Int.le_total 0 (a - b - c - d) with k | k
                  · obtain ⟨rfl, rfl, rfl, rfl⟩ := dq00p00 hr (by omega) (by omega) (by omega) (by omega)
                    obtain ⟨rfl, rfl, rfl, rfl⟩ := dq00p00 hy (by omega) (by omega) (by omega) (by omega)
                    obtain ⟨rfl, rfl, rfl, rfl⟩ := dq01p01 hw (by omega) (by omega) (by omega) (by omega) (by omega)
                    refine ⟨?_, ?_, ?_, ?_, ?_, ?_⟩ <;> omega
                  · obtain ⟨rfl, rfl, rfl, rfl⟩ := dq00n hr (by omega) (by omega) (by omega)
                    obtain ⟨rfl, rfl, rfl, rfl⟩ := dq00n hy (by omega) (by omega) (by omega)
                    obtain ⟨rfl, rfl, rfl, rfl⟩ := dq01p01 hw (by omega) (by omega) (by omega) (by omega) (by omega)
                    refine ⟨?_, ?_, ?_, ?_, ?_, ?_⟩ <;> omega
                · obtain ⟨rfl, rfl, rfl, rfl⟩ := dq00p00 hx (by omega) (by omega) (by omega) (by omega)
                  rcases Int.le_total 0 (a - b - c - d) with k | k
                  · obtain ⟨rfl, rfl, rfl, rfl⟩ := dq00p00 hr (by omega) (by omega) (by omega) (by omega)
                    obtain ⟨rfl, rfl, rfl, rfl⟩ := dq00p00 hy (by omega) (by omega) (by omega) (by omega)
                    obtain ⟨rfl, rfl, rfl, rfl⟩ := dq01p00 hw (by omega) (by omega) (by omega) (by omega) (by omega)
                    refine ⟨?_, ?_, ?_, ?_, ?_, ?_⟩ <;> omega
                  · obtain ⟨rfl, rfl, rfl, rfl⟩ := dq00n hr (by omega) (by omega) (by omega)
                    obtain ⟨rfl, rfl, rfl, rfl⟩ := dq00n hy (by omega) (by omega) (by omega)
                    obtain ⟨rfl, rfl, rfl, rfl⟩ := dq01p00 hw (by omega) (by omega) (by omega) (by omega) (by omega)
                    refine ⟨?_, ?_, ?_, ?_, ?_, ?_⟩ <;> omega
              · obtain ⟨rfl, rfl, rfl, rfl⟩ := dq10n hq (by omega) (by omega) (by omega)
                obtain ⟨rfl, rfl, rfl, rfl⟩ := dq00n hx (by omega) (by omega) (by omega)
                rcases Int.le_total 0 (a - b - d - e) with k | k
                · obtain ⟨rfl, rfl, rfl, rfl⟩ := dq00p00 hr (by omega) (by omega) (by omega) (by omega)
                  obtain ⟨rfl, rfl, rfl, rfl⟩ := dq00p00 hy (by omega) (by omega) (by omega) (by omega)
                  obtain ⟨rfl, rfl, rfl, rfl⟩ := dq01p00 hw (by omega) (by omega) (by omega) (by omega) (by omega)
                  refine ⟨?_, ?_, ?_, ?_, ?_, ?_⟩ <;> omega
                · obtain ⟨rfl, rfl, rfl, rfl⟩ := dq00n hr (by omega) (by omega) (by omega)
                  obtain ⟨rfl, rfl, rfl, rfl⟩ := dq00n hy (by omega) (by omega) (by omega)
                  obtain ⟨rfl, rfl, rfl, rfl⟩ := dq01p00 hw (by omega) (by omega) (by omega) (by omega) (by omega)
                  refine ⟨?_, ?_, ?_, ?_, ?_, ?_⟩ <;> omega
      · obtain ⟨rfl, rfl, rfl, rfl⟩ := dq01n hp (by omega) (by omega) (by omega)
        rcases Int.le_total 0 (f) with k | k
        · rcases Int.le_total 0 (c - e + f) with k | k
          · rcases Int.le_total 0 (-c + e) with k | k
            · obtain ⟨rfl, rfl, rfl, rfl⟩ := dq11p11 hq (by omega) (by omega) (by omega) (by omega)
              rcases Int.le_total 0 (a - b + d - e + f) with k | k
              · rcases Int.le_total 0 (a + d - e + f) with k | k
                · obtain ⟨rfl, rfl, rfl, rfl⟩ := dq01p11 hx (by omega) (by omega) (by omega) (by omega) (by omega)
                  obtain ⟨rfl, rfl, rfl, rfl⟩ := dq01n hr (by omega) (by omega) (by omega)
                  obtain ⟨rfl, rfl, rfl, rfl⟩ := dq11p11 hy (by omega) (by omega) (by omega) (by omega)
                  obtain ⟨rfl, rfl, rfl, rfl⟩ := dq01p11 hw (by omega) (by omega) (by omega) (by omega) (by omega)
                  refine ⟨?_, ?_, ?_, ?_, ?_, ?_⟩ <;> omega
                · obtain ⟨rfl, rfl, rfl, rfl⟩ := dq01p10 hx (by omega) (by omega) (by omega) (by omega) (by omega)
                  obtain ⟨rfl, rfl, rfl, rfl⟩ := dq01n hr (by omega) (by omega) (by omega)
                  obtain ⟨rfl, rfl, rfl, rfl⟩ := dq11p11 hy (by omega) (by omega) (by omega) (by omega)
                  obtain ⟨rfl, rfl, rfl, rfl⟩ := dq01p10 hw (by omega) (by omega) (by omega) (by omega) (by omega)
                  refine ⟨?_, ?_, ?_, ?_, ?_, ?_⟩ <;> omega
              · obtain ⟨rfl, rfl, rfl, rfl⟩ := dq01n hx (by omega) (by omega) (by omega)
                obtain ⟨rfl, rfl, rfl, rfl⟩ := dq01n hr (by omega) (by omega) (by omega)
                obtain ⟨rfl, rfl, rfl, rfl⟩ := dq11p11 hy (by omega) (by omega) (by omega) (by omega)
                obtain ⟨rfl, rfl, rfl, rfl⟩ := dq01n hw (by omega) (by omega) (by omega)
                refine ⟨?_, ?_, ?_, ?_, ?_, ?_⟩ <;> omega
            · obtain ⟨rfl, rfl, rfl, rfl⟩ := dq11p01 hq (by omega) (by omega) (by omega) (by omega)
              rcases Int.le_total 0 (a - b + d - e + f) with k | k
              · rcases Int.le_total 0 (-a + b - d + e) with k | k
                · rcases Int.le_total 0 (a + d - e + f) with k | k
                  · obtain ⟨rfl, rfl, rfl, rfl⟩ := dq01p11 hx (by omega) (by omega) (by omega) (by omega) (by omega)
                    obtain ⟨rfl, rfl, rfl, rfl⟩ := dq00n hr (by omega) (by omega) (by omega)
                    obtain ⟨rfl, rfl, rfl, rfl⟩ := dq11p01 hy (by omega) (by omega) (by omega) (by omega)
                    obtain ⟨rfl, rfl, rfl, rfl⟩ := dq01p11 hw (by omega) (by omega) (by omega) (by omega) (by omega)
                    refine ⟨?_, ?_, ?_, ?_, ?_, ?_⟩ <;> omega
                  · obtain ⟨rfl, rfl, rfl, rfl⟩ := dq01p10 hx (by omega) (by omega) (by omega) (by omega) (by omega)
                    obtain ⟨rfl, rfl, rfl, rfl⟩ := dq00n hr (by omega) (by omega) (by omega)
                    obtain ⟨rfl, rfl, rfl, rfl⟩ := dq11p01 hy (by omega) (by omega) (by omega) (by omega)
                    obtain ⟨rfl, rfl, rfl, rfl⟩ := dq01p10 hw (by omega) (by omega) (by omega) (by omega) (by omega)
                    refine ⟨?_, ?_, ?_, ?_, ?_, ?_⟩ <;> omega
                · rcases Int.le_total 0 (a + d - e + f) with k | k
                  · obtain ⟨rfl, rfl, rfl, rfl⟩ := dq01p01 hx (by omega) (by omega) (by omega) (by omega) (by omega)
                    obtain ⟨rfl, rfl, rfl, rfl⟩ := dq00n hr (by omega) (by omega) (by omega)
                    obtain ⟨rfl, rfl, rfl, rfl⟩ := dq10p01 hy (by omega) (by omega) (by omega)
                    obtain ⟨rfl, rfl, rfl, rfl⟩ := dq01p11 hw (by omega) (by omega) (by omega) (by omega) (by omega)
                    refine ⟨?_, ?_, ?_, ?_, ?_, ?_⟩ <;> omega
                  · obtain ⟨rfl, rfl, rfl, rfl⟩ := dq01p00 hx (by omega) (by omega) (by omega) (by omega) (by omega)
                    obtain ⟨rfl, rfl, rfl, rfl⟩ := dq00n hr (by omega) (by omega) (by omega)
                    obtain ⟨rfl, rfl, rfl, rfl⟩ := dq10p01 hy (by omega) (by omega) (by omega)
                    obtain ⟨rfl, rfl, rfl, rfl⟩ := dq01p10 hw (by omega) (by omega) (by omega) (by omega) (by omega)
                    refine ⟨?_, ?_, ?_, ?_, ?_, ?_⟩ <;> omega
              · obtain ⟨rfl, rfl, rfl, rfl⟩ := dq01n hx (by omega) (by omega) (by omega)
                obtain ⟨rfl, rfl, rfl, rfl⟩ := dq00n hr (by omega) (by omega) (by omega)
                obtain ⟨rfl, rfl, rfl, rfl⟩ := dq11p01 hy (by omega) (by omega) (by omega) (by omega)
                obtain ⟨rfl, rfl, rfl, rfl⟩ := dq01n hw (by omega) (by omega) (by omega)
                refine ⟨?_, ?_, ?_, ?_, ?_, ?_⟩ <;> omega
          · obtain ⟨rfl, rfl, rfl, rfl⟩ := dq11n hq (by omega) (by omega) (by omega)
            obtain ⟨rfl, rfl, rfl, rfl⟩ := dq01n hx (by omega) (by omega) (by omega)
            obtain ⟨rfl, rfl, rfl, rfl⟩ := dq01n hr (by omega) (by omega) (by omega)
            obtain ⟨rfl, rfl, rfl, rfl⟩ := dq11n hy (by omega) (by omega) (by omega)
            obtain ⟨rfl, rfl, rfl, rfl⟩ := dq01n hw (by omega) (by omega) (by omega)
            refine ⟨?_, ?_, ?_, ?_, ?_, ?_⟩ <;> omega
        · rcases Int.le_total 0 (c - e) with k | k
          · obtain ⟨rfl, rfl, rfl, rfl⟩ := dq10p01 hq (by omega) (by omega) (by omega)
            rcases Int.le_total 0 (a - b + d - e) with k | k
            · rcases Int.le_total 0 (a + d - e) with k | k
              · obtain ⟨rfl, rfl, rfl, rfl⟩ := dq00p01 hx (by omega) (by omega) (by omega) (by omega)
                obtain ⟨rfl, rfl, rfl, rfl⟩ := dq00n hr (by omega) (by omega) (by omega)
                obtain ⟨rfl, rfl, rfl, rfl⟩ := dq10p01 hy (by omega) (by omega) (by omega)
                obtain ⟨rfl, rfl, rfl, rfl⟩ := dq01p11 hw (by omega) (by omega) (by omega) (by omega) (by omega)
                refine ⟨?_, ?_, ?_, ?_, ?_, ?_⟩ <;> omega
              · obtain ⟨rfl, rfl, rfl, rfl⟩ := dq00p00 hx (by omega) (by omega) (by omega) (by omega)
                obtain ⟨rfl, rfl, rfl, rfl⟩ := dq00n hr (by omega) (by omega) (by omega)
                obtain ⟨rfl, rfl, rfl, rfl⟩ := dq10p01 hy (by omega) (by omega) (by omega)
                obtain ⟨rfl, rfl, rfl, rfl⟩ := dq01p10 hw (by omega) (by omega) (by omega) (by omega) (by omega)
                refine ⟨?_, ?_, ?_, ?_, ?_, ?_⟩ <;> omega
            · obtain ⟨rfl, rfl, rfl, rfl⟩ := dq00n hx (by omega) (by omega) (by omega)
              obtain ⟨rfl, rfl, rfl, rfl⟩ := dq00n hr (by omega) (by omega) (by omega)
              obtain ⟨rfl, rfl, rfl, rfl⟩ := dq10p01 hy (by omega) (by omega) (by omega)
              obtain ⟨rfl, rfl, rfl, rfl⟩ := dq01n hw (by omega) (by omega) (by omega)
              refine ⟨?_, ?_, ?_, ?_, ?_, ?_⟩ <;> omega
          · obtain ⟨rfl, rfl, rfl, rfl⟩ := dq10n hq (by omega) (by omega) (by omega)
            obtain ⟨rfl, rfl, rfl, rfl⟩ := dq00n hx (by omega) (by omega) (by omega)
            obtain ⟨rfl, rfl, rfl, rfl⟩ := dq00n hr (by omega) (by omega) (by omega)
            obtain ⟨rfl, rfl, rfl, rfl⟩ := dq10n hy (by omega) (by omega) (by omega)
            obtain ⟨rfl, rfl, rfl, rfl⟩ := dq01n hw (by omega) (by omega) (by omega)
            refine ⟨?_, ?_, ?_, ?_, ?_, ?_⟩ <;> omega
    · rcases Int.le_total 0 (a - b - c) with k | k
      · rcases Int.le_total 0 (a - c) with k | k
        · obtain ⟨rfl, rfl, rfl, rfl⟩ := dq00p01 hp (by omega) (by omega) (by omega) (by omega)
          rcases Int.le_total 0 (f) with k | k
          · rcases Int.le_total 0 (c - d - e + f) with k | k
            · rcases Int.le_total 0 (-c + d + e) with k | k
              · rcases Int.le_total 0 (c - e + f) with k | k
                · obtain ⟨rfl, rfl, rfl, rfl⟩ := dq01p11 hq (by omega) (by omega) (by omega) (by omega) (by omega)
                  rcases Int.le_total 0 (c + d - e + f) with k | k
                  · obtain ⟨rfl, rfl, rfl, rfl⟩ := dq11p11 hx (by omega) (by omega) (by omega) (by omega)
                    rcases Int.le_total 0 (-a + b + d + e) with k | k
                    · obtain ⟨rfl, rfl, rfl, rfl⟩ := dq01p11 hr (by omega) (by omega) (by omega) (by omega) (by omega)
                      obtain ⟨rfl, rfl, rfl, rfl⟩ := dq01p11 hy (by omega) (by omega) (by omega) (by omega) (by omega)
                      obtain ⟨rfl, rfl, rfl, rfl⟩ := dq11p11 hw (by omega) (by omega) (by omega) (by omega)
                      refine ⟨?_, ?_, ?_, ?_, ?_, ?_⟩ <;> omega
                    · obtain ⟨rfl, rfl, rfl, rfl⟩ := dq01p01 hr (by omega) (by omega) (by omega) (by omega) (by omega)
                      obtain ⟨rfl, rfl, rfl, rfl⟩ := dq01p01 hy (by omega) (by omega) (by omega) (by omega) (by omega)
                      obtain ⟨rfl, rfl, rfl, rfl⟩ := dq11p11 hw (by omega) (by omega) (by omega) (by omega)
                      refine ⟨?_, ?_, ?_, ?_, ?_, ?_⟩ <;> omega
                  · obtain ⟨rfl, rfl, rfl, rfl⟩ := dq11n hx (by omega) (by omega) (by omega)
                    rcases Int.le_total 0 (-a + b + d + e) with k | k
                    · obtain ⟨rfl, rfl, rfl, rfl⟩ := dq01p11 hr (by omega) (by omega) (by omega) (by omega) (by omega)
                      obtain ⟨rfl, rfl, rfl, rfl⟩ := dq01p11 hy (by omega) (by omega) (by omega) (by omega) (by omega)
                      obtain ⟨rfl, rfl, rfl, rfl⟩ := dq11n hw (by omega) (by omega) (by omega)
                      refine ⟨?_, ?_, ?_, ?_, ?_, ?_⟩ <;> omega
                    · obtain ⟨rfl, rfl, rfl, rfl⟩ := dq01p01 hr (by omega) (by omega) (by omega) (by omega) (by omega)
                      obtain ⟨rfl, rfl, rfl, rfl⟩ := dq01p01 hy (by omega) (by omega) (by omega) (by omega) (by omega)
                      obtain ⟨rfl, rfl, rfl, rfl⟩ := dq11n hw (by omega) (by omega) (by omega)
                      refine ⟨?_, ?_, ?_, ?_, ?_, ?_⟩ <;> omega
                · obtain ⟨rfl, rfl, rfl, rfl⟩ := dq01p10 hq (by omega) (by omega) (by omega) (by omega) (by omega)
                  obtain ⟨rfl, rfl, rfl, rfl⟩ := dq11n hx (by omega) (by omega) (by omega)
                  rcases Int.le_total 0 (-a + b + d + e) with k | k
                  · obtain ⟨rfl, rfl, rfl, rfl⟩ := dq01p11 hr (by omega) (by omega) (by omega) (by omega) (by omega)
                    obtain ⟨rfl, rfl, rfl, rfl⟩ := dq01p10 hy (by omega) (by omega) (by omega) (by omega) (by omega)
                    obtain ⟨rfl, rfl, rfl, rfl⟩ := dq10n hw (by omega) (by omega) (by omega)
                    refine ⟨?_, ?_, ?_, ?_, ?_, ?_⟩ <;> omega
                  · obtain ⟨rfl, rfl, rfl, rfl⟩ := dq01p01 hr (by omega) (by omega) (by omega) (by omega) (by omega)
                    obtain ⟨rfl, rfl, rfl, rfl⟩ := dq01p00 hy (by omega) (by omega) (by omega) (by omega) (by omega)
                    obtain ⟨rfl, rfl, rfl, rfl⟩ := dq10n hw (by omega) (by omega) (by omega)
                    refine ⟨?_, ?_, ?_, ?_, ?_, ?_⟩ <;> omega
              · rcases Int.le_total 0 (c - e + f) with k | k
                · obtain ⟨rfl, rfl, rfl, rfl⟩ := dq01p01 hq (by omega) (by omega) (by omega) (by omega) (by omega)
                  rcases Int.le_total 0 (c + d - e + f) with k | k
                  · rcases Int.le_total 0 (-c - d + e) with k | k
                    · obtain ⟨rfl, rfl, rfl, rfl⟩ := dq11p11 hx (by omega) (by omega) (by omega) (by omega)
                      obtain ⟨rfl, rfl, rfl, rfl⟩ := dq00p01 hr (by omega) (by omega) (by omega) (by omega)
                      obtain ⟨rfl, rfl, rfl, rfl⟩ := dq01p01 hy (by omega) (by omega) (by omega) (by omega) (by omega)
                      obtain ⟨rfl, rfl, rfl, rfl⟩ := dq11p11 hw (by omega) (by omega) (by omega) (by omega)
                      refine ⟨?_, ?_, ?_, ?_, ?_, ?_⟩ <;> omega
                    · obtain ⟨rfl, rfl, rfl, rfl⟩ := dq11p01 hx (by omega) (by omega) (by omega) (by omega)
                      obtain ⟨rfl, rfl, rfl, rfl⟩ := dq00p01 hr (by omega) (by omega) (by omega) (by omega)
                      obtain ⟨rfl, rfl, rfl, rfl⟩ := dq00p01 hy (by omega) (by omega) (by omega) (by omega)
                      obtain ⟨rfl, rfl, rfl, rfl⟩ := dq11p11 hw (by omega) (by omega) (by omega) (by omega)
                      refine ⟨?_, ?_, ?_, ?_, ?_, ?_⟩ <;> omega
                  · obtain ⟨rfl, rfl, rfl, rfl⟩ := dq11n hx (by omega) (by omega) (by omega)
                    obtain ⟨rfl, rfl, rfl, rfl⟩ := dq00p01 hr (by omega) (by omega) (by omega) (by omega)
                    obtain ⟨rfl, rfl, rfl, rfl⟩ := dq01p01 hy (by omega) (by omega) (by omega) (by omega) (by omega)
                    obtain ⟨rfl, rfl, rfl, rfl⟩ := dq11n hw (by omega) (by omega) (by omega)
                    refine ⟨?_, ?_, ?_, ?_, ?_, ?_⟩ <;> omega
                · obtain ⟨rfl, rfl, rfl, rfl⟩ := dq01p00 hq (by omega) (by omega) (by omega) (by omega) (by omega)
                  obtain ⟨rfl, rfl, rfl, rfl⟩ := dq11n hx (by omega) (by omega) (by omega)
                  obtain ⟨rfl, rfl, rfl, rfl⟩ := dq00p01 hr (by omega) (by omega) (by omega) (by omega)
                  obtain ⟨rfl, rfl, rfl, rfl⟩ := dq01p00 hy (by omega) (by omega) (by omega) (by omega) (by omega)
                  obtain ⟨rfl, rfl, rfl, rfl⟩ := dq10n hw (by omega) (by omega) (by omega)
                  refine ⟨?_, ?_, ?_, ?_, ?_, ?_⟩ <;> omega
            · obtain ⟨rfl, rfl, rfl, rfl⟩ := dq01n hq (by omega) (by omega) (by omega)
              obtain ⟨rfl, rfl, rfl, rfl⟩ := dq11n hx (by omega) (by omega) (by omega)
              rcases Int.le_total 0 (a - b - d - e + f) with k | k
              · rcases Int.le_total 0 (-a + b + d + e) with k | k
                · rcases Int.le_total 0 (a - d - e + f) with k | k
                  · obtain ⟨rfl, rfl, rfl, rfl⟩ := dq01p11 hr (by omega) (by omega) (by omega) (by omega) (by omega)
                    obtain ⟨rfl, rfl, rfl, rfl⟩ := dq01p10 hy (by omega) (by omega) (by omega) (by omega) (by omega)
                    obtain ⟨rfl, rfl, rfl, rfl⟩ := dq10p01 hw (by omega) (by omega) (by omega)
                    refine ⟨?_, ?_, ?_, ?_, ?_, ?_⟩ <;> omega
                  · obtain ⟨rfl, rfl, rfl, rfl⟩ := dq01p10 hr (by omega) (by omega) (by omega) (by omega) (by omega)
                    obtain ⟨rfl, rfl, rfl, rfl⟩ := dq01p10 hy (by omega) (by omega) (by omega) (by omega) (by omega)
                    obtain ⟨rfl, rfl, rfl, rfl⟩ := dq00p01 hw (by omega) (by omega) (by omega) (by omega)
                    refine ⟨?_, ?_, ?_, ?_, ?_, ?_⟩ <;> omega
                · rcases Int.le_total 0 (a - d - e + f) with k | k
                  · obtain ⟨rfl, rfl, rfl, rfl⟩ := dq01p01 hr (by omega) (by omega) (by omega) (by omega) (by omega)
                    obtain ⟨rfl, rfl, rfl, rfl⟩ := dq01p00 hy (by omega) (by omega) (by omega) (by omega) (by omega)
                    obtain ⟨rfl, rfl, rfl, rfl⟩ := dq10p01 hw (by omega) (by omega) (by omega)
                    refine ⟨?_, ?_, ?_, ?_, ?_, ?_⟩ <;> omega
                  · obtain ⟨rfl, rfl, rfl, rfl⟩ := dq01p00 hr (by omega) (by omega) (by omega) (by omega) (by omega)
                    obtain ⟨rfl, rfl, rfl, rfl⟩ := dq01p00 hy (by omega) (by omega) (by omega) (by omega) (by omega)
                    obtain ⟨rfl, rfl, rfl, rfl⟩ := dq00p01 hw (by omega) (by omega) (by omega) (by omega)
                    refine ⟨?_, ?_, ?_, ?_, ?_, ?_⟩ <;> omega
              · obtain ⟨rfl, rfl, rfl, rfl⟩ := dq01n hr (by omega) (by omega) (by omega)
                obtain ⟨rfl, rfl, rfl, rfl⟩ := dq01n hy (by omega) (by omega) (by omega)
                obtain ⟨rfl, rfl, rfl, rfl⟩ := dq00p01 hw (by omega) (by omega) (by omega) (by omega)
                refine ⟨?_, ?_, ?_, ?_, ?_, ?_⟩ <;> omega
          · rcases Int.le_total 0 (c - d - e) with k | k
            · rcases Int.le_total 0 (c - e) with k | k
              · obtain ⟨rfl, rfl, rfl, rfl⟩ := dq00p01 hq (by omega) (by omega) (by omega) (by omega)
                rcases Int.le_total 0 (c + d - e) with k | k
                · obtain ⟨rfl, rfl, rfl, rfl⟩ := dq10p01 hx (by omega) (by omega) (by omega)
                  obtain ⟨rfl, rfl, rfl, rfl⟩ := dq00p01 hr (by omega) (by omega) (by omega) (by omega)
                  obtain ⟨rfl, rfl, rfl, rfl⟩ := dq00p01 hy (by omega) (by omega) (by omega) (by omega)
                  obtain ⟨rfl, rfl, rfl, rfl⟩ := dq11p11 hw (by omega) (by omega) (by omega) (by omega)
                  refine ⟨?_, ?_, ?_, ?_, ?_, ?_⟩ <;> omega
                · obtain ⟨rfl, rfl, rfl, rfl⟩ := dq10n hx (by omega) (by omega) (by omega)
                  obtain ⟨rfl, rfl, rfl, rfl⟩ := dq00p01 hr (by omega) (by omega) (by omega) (by omega)
                  obtain ⟨rfl, rfl, rfl, rfl⟩ := dq00p01 hy (by omega) (by omega) (by omega) (by omega)
                  obtain ⟨rfl, rfl, rfl, rfl⟩ := dq11n hw (by omega) (by omega) (by omega)
                  refine ⟨?_, ?_, ?_, ?_, ?_, ?_⟩ <;> omega
              · obtain ⟨rfl, rfl, rfl, rfl⟩ := dq00p00 hq (by omega) (by omega) (by omega) (by omega)
                obtain ⟨rfl, rfl, rfl, rfl⟩ := dq10n hx (by omega) (by omega) (by omega)
                obtain ⟨rfl, rfl, rfl, rfl⟩ := dq00p01 hr (by omega) (by omega) (by omega) (by omega)
                obtain ⟨rfl, rfl, rfl, rfl⟩ := dq00p00 hy (by omega) (by omega) (by omega) (by omega)
                obtain ⟨rfl, rfl, rfl, rfl⟩ := dq10n hw (by omega) (by omega) (by omega)
                refine ⟨?_, ?_, ?_, ?_, ?_, ?_⟩ <;> omega
            · obtain ⟨rfl, rfl, rfl, rfl⟩ := dq00n hq (by omega) (by omega) (by omega)
              obtain ⟨rfl, rfl, rfl, rfl⟩ := dq10n hx (by omega) (by omega) (by omega)
              rcases Int.le_total 0 (a - b - d - e) with k | k
              · rcases Int.le_total 0 (a - d - e) with k | k
                · obtain ⟨rfl, rfl, rfl, rfl⟩ := dq00p01 hr (by omega) (by omega) (by omega) (by omega)
                  obtain ⟨rfl, rfl, rfl, rfl⟩ := dq00p00 hy (by omega) (by omega) (by omega) (by omega)
                  obtain ⟨rfl, rfl, rfl, rfl⟩ := dq10p01 hw (by omega) (by omega) (by omega)
                  refine ⟨?_, ?_, ?_, ?_, ?_, ?_⟩ <;> omega
                · obtain ⟨rfl, rfl, rfl, rfl⟩ := dq00p00 hr (by omega) (by omega) (by omega) (by omega)
                  obtain ⟨rfl, rfl, rfl, rfl⟩ := dq00p00 hy (by omega) (by omega) (by omega) (by omega)
                  obtain ⟨rfl, rfl, rfl, rfl⟩ := dq00p01 hw (by omega) (by omega) (by omega) (by omega)
                  refine ⟨?_, ?_, ?_, ?_, ?_, ?_⟩ <;> omega
              · obtain ⟨rfl, rfl, rfl, rfl⟩ := dq00n hr (by omega) (by omega) (by omega)
                obtain ⟨rfl, rfl, rfl, rfl⟩ := dq00n hy (by omega) (by omega) (by omega)
                obtain ⟨rfl, rfl, rfl, rfl⟩ := dq00p01 hw (by omega) (by omega) (by omega) (by omega)
                refine ⟨?_, ?_, ?_, ?_, ?_, ?_⟩ <;> omega
        · obtain ⟨rfl, rfl, rfl, rfl⟩ := dq00p00 hp (by omega) (by omega) (by omega) (by omega)
          rcases Int.le_total 0 (f) with k | k
          · rcases Int.le_total 0 (c - d - e + f) with k | k
            · rcases Int.le_total 0 (-c + d + e) with k | k
              · rcases Int.le_total 0 (c - e + f) with k | k
                · obtain ⟨rfl, rfl, rfl, rfl⟩ := dq01p11 hq (by omega) (by omega) (by omega) (by omega) (by omega)
                  rcases Int.le_total 0 (c + d - e + f) with k | k
                  · rcases Int.le_total 0 (a + d - e + f) with k | k
                    · obtain ⟨rfl, rfl, rfl, rfl⟩ := dq01p11 hx (by omega) (by omega) (by omega) (by omega) (by omega)
                      rcases Int.le_total 0 (-a + b + d + e) with k | k
                      · obtain ⟨rfl, rfl, rfl, rfl⟩ := dq01p10 hr (by omega) (by omega) (by omega) (by omega) (by omega)
                        obtain ⟨rfl, rfl, rfl, rfl⟩ := dq01p11 hy (by omega) (by omega) (by omega) (by omega) (by omega)
                        obtain ⟨rfl, rfl, rfl, rfl⟩ := dq01p11 hw (by omega) (by omega) (by omega) (by omega) (by omega)
                        refine ⟨?_, ?_, ?_, ?_, ?_, ?_⟩ <;> omega
                      · obtain ⟨rfl, rfl, rfl, rfl⟩ := dq01p00 hr (by omega) (by omega) (by omega) (by omega) (by omega)
                        obtain ⟨rfl, rfl, rfl, rfl⟩ := dq01p01 hy (by omega) (by omega) (by omega) (by omega) (by omega)
                        obtain ⟨rfl, rfl, rfl, rfl⟩ := dq01p11 hw (by omega) (by omega) (by omega) (by omega) (by omega)
                        refine ⟨?_, ?_, ?_, ?_, ?_, ?_⟩ <;> omega
                    · obtain ⟨rfl, rfl, rfl, rfl⟩ := dq01p10 hx (by omega) (by omega) (by omega) (by omega) (by omega)
                      rcases Int.le_total 0 (-a + b + d + e) with k | k
                      · obtain ⟨rfl, rfl, rfl, rfl⟩ := dq01p10 hr (by omega) (by omega) (by omega) (by omega) (by omega)
                        obtain ⟨rfl, rfl, rfl, rfl⟩ := dq01p11 hy (by omega) (by omega) (by omega) (by omega) (by omega)
                        obtain ⟨rfl, rfl, rfl, rfl⟩ := dq01p10 hw (by omega) (by omega) (by omega) (by omega) (by omega)
                        refine ⟨?_, ?_, ?_, ?_, ?_, ?_⟩ <;> omega
                      · obtain ⟨rfl, rfl, rfl, rfl⟩ := dq01p00 hr (by omega) (by omega) (by omega) (by omega) (by omega)
                        obtain ⟨rfl, rfl, rfl, rfl⟩ := dq01p01 hy (by omega) (by omega) (by omega) (by omega) (by omega)
                        obtain ⟨rfl, rfl, rfl, rfl⟩ := dq01p10 hw (by omega) (by omega) (by omega) (by omega) (by omega)
                        refine ⟨?_, ?_, ?_, ?_, ?_, ?_⟩ <;> omega
                  · obtain ⟨rfl, rfl, rfl, rfl⟩ := dq01n hx (by omega) (by omega) (by omega)
                    rcases Int.le_total 0 (-a + b + d + e) with k | k
                    · obtain ⟨rfl, rfl, rfl, rfl⟩ := dq01p10 hr (by omega) (by omega) (by omega) (by omega) (by omega)
                      obtain ⟨rfl, rfl, rfl, rfl⟩ := dq01p11 hy (by omega) (by omega) (by omega) (by omega) (by omega)
                      obtain ⟨rfl, rfl, rfl, rfl⟩ := dq01n hw (by omega) (by omega) (by omega)
                      refine ⟨?_, ?_, ?_, ?_, ?_, ?_⟩ <;> omega
                    · obtain ⟨rfl, rfl, rfl, rfl⟩ := dq01p00 hr (by omega) (by omega) (by omega) (by omega) (by omega)
                      obtain ⟨rfl, rfl, rfl, rfl⟩ := dq01p01 hy (by omega) (by omega) (by omega) (by omega) (by omega)
                      obtain ⟨rfl, rfl, rfl, rfl⟩ := dq01n hw (by omega) (by omega) (by omega)
                      refine ⟨?_, ?_, ?_, ?_, ?_, ?_⟩ <;> omega
                · obtain ⟨rfl, rfl, rfl, rfl⟩ := dq01p10 hq (by omega) (by omega) (by omega) (by omega) (by omega)
                  obtain ⟨rfl, rfl, rfl, rfl⟩ := dq01n hx (by omega) (by omega) (by omega)
                  rcases Int.le_total 0 (-a + b + d + e) with k | k
                  · obtain ⟨rfl, rfl, rfl, rfl⟩ := dq01p10 hr (by omega) (by omega) (by omega) (by omega) (by omega)
                    obtain ⟨rfl, rfl, rfl, rfl⟩ := dq01p10 hy (by omega) (by omega) (by omega) (by omega) (by omega)
                    obtain ⟨rfl, rfl, rfl, rfl⟩ := dq00n hw (by omega) (by omega) (by omega)
                    refine ⟨?_, ?_, ?_, ?_, ?_, ?_⟩ <;> omega
                  · obtain ⟨rfl, rfl, rfl, rfl⟩ := dq01p00 hr (by omega) (by omega) (by omega) (by omega) (by omega)
                    obtain ⟨rfl, rfl, rfl, rfl⟩ := dq01p00 hy (by omega) (by omega) (by omega) (by omega) (by omega)
                    obtain ⟨rfl, rfl, rfl, rfl⟩ := dq00n hw (by omega) (by omega) (by omega)
                    refine ⟨?_, ?_, ?_, ?_, ?_, ?_⟩ <;> omega
              · rcases Int.le_total 0 (c - e + f) with k | k
                · obtain ⟨rfl, rfl, rfl, rfl⟩ := dq01p01 hq (by omega) (by omega) (by omega) (by omega) (by omega)
                  rcases Int.le_total 0 (c + d - e + f) with k | k
                  · rcases Int.le_total 0 (-c - d + e) with k | k
                    · rcases Int.le_total 0 (a + d - e + f) with k | k
                      · obtain ⟨rfl, rfl, rfl, rfl⟩ := dq01p11 hx (by omega) (by omega) (by omega) (by omega) (by omega)
                        obtain ⟨rfl, rfl, rfl, rfl⟩ := dq00p00 hr (by omega) (by omega) (by omega) (by omega)
                        obtain ⟨rfl, rfl, rfl, rfl⟩ := dq01p01 hy (by omega) (by omega) (by omega) (by omega) (by omega)
                        obtain ⟨rfl, rfl, rfl, rfl⟩ := dq01p11 hw (by omega) (by omega) (by omega) (by omega) (by omega)
                        refine ⟨?_, ?_, ?_, ?_, ?_, ?_⟩ <;> omega
                      · obtain ⟨rfl, rfl, rfl, rfl⟩ := dq01p10 hx (by omega) (by omega) (by omega) (by omega) (by omega)
                        obtain ⟨rfl, rfl, rfl, rfl⟩ := dq00p00 hr (by omega) (by omega) (by omega) (by omega)
                        obtain ⟨rfl, rfl, rfl, rfl⟩ := dq01p01 hy (by omega) (by omega) (by omega) (by omega) (by omega)
                        obtain ⟨rfl, rfl, rfl, rfl⟩ := dq01p10 hw (by omega) (by omega) (by omega) (by omega) (by omega)
                        refine ⟨?_, ?_, ?_, ?_, ?_, ?_⟩ <;> omega
                    · rcases Int.le_total 0 (a + d - e + f) with k | k
                      · obtain ⟨rfl, rfl, rfl, rfl⟩ := dq01p01 hx (by omega) (by omega) (by omega) (by omega) (by omega)
                        obtain ⟨rfl, rfl, rfl, rfl⟩ := dq00p00 hr (by omega) (by omega) (by omega) (by omega)
                        obtain ⟨rfl, rfl, rfl, rfl⟩ := dq00p01 hy (by omega) (by omega) (by omega) (by omega)
                        obtain ⟨rfl, rfl, rfl, rfl⟩ := dq01p11 hw (by omega) (by omega) (by omega) (by omega) (by omega)
                        refine ⟨?_, ?_, ?_, ?_, ?_, ?_⟩ <;> omega
                      · obtain ⟨rfl, rfl, rfl, rfl⟩ := dq01p00 hx (by omega) (by omega) (by omega) (by omega) (by omega)
                        obtain ⟨rfl, rfl, rfl, rfl⟩ := dq00p00 hr (by omega) (by omega) (by omega) (by omega)
                        obtain ⟨rfl, rfl, rfl, rfl⟩ := dq00p01 hy (by omega) (by omega) (by omega) (by omega)
                        obtain ⟨rfl, rfl, rfl, rfl⟩ := dq01p10 hw (by omega) (by omega) (by omega) (by omega) (by omega)
                        refine ⟨?_, ?_, ?_, ?_, ?_, ?_⟩ <;> omega
                  · obtain ⟨rfl, rfl, rfl, rfl⟩ := dq01n hx (by omega) (by omega) (by omega)
                    obtain ⟨rfl, rfl, rfl, rfl⟩ := dq00p00 hr (by omega) (by omega) (by omega) (by omega)
                    obtain ⟨rfl, rfl, rfl, rfl⟩ := dq01p01 hy (by omega) (by omega) (by omega) (by omega) (by omega)
                    obtain ⟨rfl, rfl, rfl, rfl⟩ := dq01n hw (by omega) (by omega) (by omega)
                    refine ⟨?_, ?_, ?_, ?_, ?_, ?_⟩ <;> omega
                · obtain ⟨rfl, rfl, rfl, rfl⟩ := dq01p00 hq (by omega) (by omega) (by omega) (by omega) (by omega)
                  obtain ⟨rfl, rfl, rfl, rfl⟩ := dq01n hx (by omega) (by omega) (by omega)
                  obtain ⟨rfl, rfl, rfl, rfl⟩ := dq00p00 hr (by omega) (by omega) (by omega) (by omega)
                  obtain ⟨rfl, rfl, rfl, rfl⟩ := dq01p00 hy (by omega) (by omega) (by omega) (by omega) (by omega)
                  obtain ⟨rfl, rfl, rfl, rfl⟩ := dq00n hw (by omega) (by omega) (by omega)
                  refine ⟨?_, ?_, ?_, ?_, ?_, ?_⟩ <;> omega
            · obtain ⟨rfl, rfl, rfl, rfl⟩ := dq01n hq (by omega) (by omega) (by omega)
              obtain ⟨rfl, rfl, rfl, rfl⟩ := dq01n hx (by omega) (by omega) (by omega)
              rcases Int.le_total 0 (a - b - d - e + f) with k | k
              · rcases Int.le_total 0 (-a + b + d + e) with k | k
                · obtain ⟨rfl, rfl, rfl, rfl⟩ := dq01p10 hr (by omega) (by omega) (by omega) (by omega) (by omega)
                  obtain ⟨rfl, rfl, rfl, rfl⟩ := dq01p10 hy (by omega) (by omega) (by omega) (by omega) (by omega)
                  obtain ⟨rfl, rfl, rfl, rfl⟩ := dq00p00 hw (by omega) (by omega) (by omega) (by omega)
                  refine ⟨?_, ?_, ?_, ?_, ?_, ?_⟩ <;> omega
                · obtain ⟨rfl, rfl, rfl, rfl⟩ := dq01p00 hr (by omega) (by omega) (by omega) (by omega) (by omega)
                  obtain ⟨rfl, rfl, rfl, rfl⟩ := dq01p00 hy (by omega) (by omega) (by omega) (by omega) (by omega)
                  obtain ⟨rfl, rfl, rfl, rfl⟩ := dq00p00 hw (by omega) (by omega) (by omega) (by omega)
                  refine ⟨?_, ?_, ?_, ?_, ?_, ?_⟩ <;> omega
              · obtain ⟨rfl, rfl, rfl, rfl⟩ := dq01n hr (by omega) (by omega) (by omega)
                obtain ⟨rfl, rfl, rfl, rfl⟩ := dq01n hy (by omega) (by omega) (by omega)
                obtain ⟨rfl, rfl, rfl, rfl⟩ := dq00p00 hw (by omega) (by omega) (by omega) (by omega)
                refine ⟨?_, ?_, ?_, ?_, ?_, ?_⟩ <;> omega
          · rcases Int.le_total 0 (c - d - e) with k | k
            · rcases Int.le_total 0 (c - e) with k | k
              · obtain ⟨rfl, rfl, rfl, rfl⟩ := dq00p01 hq (by omega) (by omega) (by omega) (by omega)
                rcases Int.le_total 0 (c + d - e) with k | k
                · rcases Int.le_total 0 (a + d - e) with k | k
                  · obtain ⟨rfl, rfl, rfl, rfl⟩ := dq00p01 hx (by omega) (by omega) (by omega) (by omega)
                    obtain ⟨rfl, rfl, rfl, rfl⟩ := dq00p00 hr (by omega) (by omega) (by omega) (by omega)
                    obtain ⟨rfl, rfl, rfl, rfl⟩ := dq00p01 hy (by omega) (by omega) (by omega) (by omega)
                    obtain ⟨rfl, rfl, rfl, rfl⟩ := dq01p11 hw (by omega) (by omega) (by omega) (by omega) (by omega)
                    refine ⟨?_, ?_, ?_, ?_, ?_, ?_⟩ <;> omega
                  · obtain ⟨rfl, rfl, rfl, rfl⟩ := dq00p00 hx (by omega) (by omega) (by omega) (by omega)
                    obtain ⟨rfl, rfl, rfl, rfl⟩ := dq00p00 hr (by omega) (by omega) (by omega) (by omega)
                    obtain ⟨rfl, rfl, rfl, rfl⟩ := dq00p01 hy (by omega) (by omega) (by omega) (by omega)
                    obtain ⟨rfl, rfl, rfl, rfl⟩ := dq01p10 hw (by omega) (by omega) (by omega) (by omega) (by omega)
                    refine ⟨?_, ?_, ?_, ?_, ?_, ?_⟩ <;> omega
                · obtain ⟨rfl, rfl, rfl, rfl⟩ := dq00n hx (by omega) (by omega) (by omega)
                  obtain ⟨rfl, rfl, rfl, rfl⟩ := dq00p00 hr (by omega) (by omega) (by omega) (by omega)
                  obtain ⟨rfl, rfl, rfl, rfl⟩ := dq00p01 hy (by omega) (by omega) (by omega) (by omega)
                  obtain ⟨rfl, rfl, rfl, rfl⟩ := dq01n hw (by omega) (by omega) (by omega)
                  refine ⟨?_, ?_, ?_, ?_, ?_, ?_⟩ <;> omega
              · obtain ⟨rfl, rfl, rfl, rfl⟩ := dq00p00 hq (by omega) (by omega) (by omega) (by omega)
                obtain ⟨rfl, rfl, rfl, rfl⟩ := dq00n hx (by omega) (by omega) (by omega)
                obtain ⟨rfl, rfl, rfl, rfl⟩ := dq00p00 hr (by omega) (by omega) (by omega) (by omega)
                obtain ⟨rfl, rfl, rfl, rfl⟩ := dq00p00 hy (by omega) (by omega) (by omega) (by omega)
                obtain ⟨rfl, rfl, rfl, rfl⟩ := dq00n hw (by omega) (by omega) (by omega)
                refine ⟨?_, ?_, ?_, ?_, ?_, ?_⟩ <;> omega
            · obtain ⟨rfl, rfl, rfl, rfl⟩ := dq00n hq (by omega) (by omega) (by omega)
              obtain ⟨rfl, rfl, rfl, rfl⟩ := dq00n hx (by omega) (by omega) (by omega)
              rcases Int.le_total 0 (a - b - d - e) with k | k
              · obtain ⟨rfl, rfl, rfl, rfl⟩ := dq00p00 hr (by omega) (by omega) (by omega) (by omega)
                obtain ⟨rfl, rfl, rfl, rfl⟩ := dq00p00 hy (by omega) (by omega) (by omega) (by omega)
                obtain ⟨rfl, rfl, rfl, rfl⟩ := dq00p00 hw (by omega) (by omega) (by omega) (by omega)
                refine ⟨?_, ?_, ?_, ?_, ?_, ?_⟩ <;> omega
              · obtain ⟨rfl, rfl, rfl, rfl⟩ := dq00n hr (by omega) (by omega) (by omega)
                obtain ⟨rfl, rfl, rfl, rfl⟩ := dq00n hy (by omega) (by omega) (by omega)
                obtain ⟨rfl, rfl, rfl, rfl⟩ := dq00p00 hw (by omega) (by omega) (by omega) (by omega)
                refine ⟨?_, ?_, ?_, ?_, ?_, ?_⟩ <;> omega
      · obtain ⟨rfl, rfl, rfl, rfl⟩ := dq00n hp (by omega) (by omega) (by omega)
        rcases Int.le_total 0 (f) with k | k
        · rcases Int.le_total 0 (c - d - e + f) with k | k
          · rcases Int.le_total 0 (-c + d + e) with k | k
            · rcases Int.le_total 0 (c - e + f) with k | k
              · obtain ⟨rfl, rfl, rfl, rfl⟩ := dq01p11 hq (by omega) (by omega) (by omega) (by omega) (by omega)
                rcases Int.le_total 0 (a - b + d - e + f) with k | k
                · rcases Int.le_total 0 (a + d - e + f) with k | k
                  · obtain ⟨rfl, rfl, rfl, rfl⟩ := dq01p11 hx (by omega) (by omega) (by omega) (by omega) (by omega)
                    obtain ⟨rfl, rfl, rfl, rfl⟩ := dq01n hr (by omega) (by omega) (by omega)
                    obtain ⟨rfl, rfl, rfl, rfl⟩ := dq01p11 hy (by omega) (by omega) (by omega) (by omega) (by omega)
                    obtain ⟨rfl, rfl, rfl, rfl⟩ := dq01p11 hw (by omega) (by omega) (by omega) (by omega) (by omega)
                    refine ⟨?_, ?_, ?_, ?_, ?_, ?_⟩ <;> omega
                  · obtain ⟨rfl, rfl, rfl, rfl⟩ := dq01p10 hx (by omega) (by omega) (by omega) (by omega) (by omega)
                    obtain ⟨rfl, rfl, rfl, rfl⟩ := dq01n hr (by omega) (by omega) (by omega)
                    obtain ⟨rfl, rfl, rfl, rfl⟩ := dq01p11 hy (by omega) (by omega) (by omega) (by omega) (by omega)
                    obtain ⟨rfl, rfl, rfl, rfl⟩ := dq01p10 hw (by omega) (by omega) (by omega) (by omega) (by omega)
                    refine ⟨?_, ?_, ?_, ?_, ?_, ?_⟩ <;> omega
                · obtain ⟨rfl, rfl, rfl, rfl⟩ := dq01n hx (by omega) (by omega) (by omega)
                  obtain ⟨rfl, rfl, rfl, rfl⟩ := dq01n hr (by omega) (by omega) (by omega)
                  obtain ⟨rfl, rfl, rfl, rfl⟩ := dq01p11 hy (by omega) (by omega) (by omega) (by omega) (by omega)
                  obtain ⟨rfl, rfl, rfl, rfl⟩ := dq01n hw (by omega) (by omega) (by omega)
                  refine ⟨?_, ?_, ?_, ?_, ?_, ?_⟩ <;> omega
              · obtain ⟨rfl, rfl, rfl, rfl⟩ := dq01p10 hq (by omega) (by omega) (by omega) (by omega) (by omega)
                obtain ⟨rfl, rfl, rfl, rfl⟩ := dq01n hx (by omega) (by omega) (by omega)
                obtain ⟨rfl, rfl, rfl, rfl⟩ := dq01n hr (by omega) (by omega) (by omega)
                obtain ⟨rfl, rfl, rfl, rfl⟩ := dq01p10 hy (by omega) (by omega) (by omega) (by omega) (by omega)
                obtain ⟨rfl, rfl, rfl, rfl⟩ := dq00n hw (by omega) (by omega) (by omega)
                refine ⟨?_, ?_, ?_, ?_, ?_, ?_⟩ <;> omega
            · rcases Int.le_total 0 (c - e + f) with k | k
              · obtain ⟨rfl, rfl, rfl, rfl⟩ := dq01p01 hq (by omega) (by omega) (by omega) (by omega) (by omega)
                rcases Int.le_total 0 (a - b + d - e + f) with k | k
                · rcases Int.le_total 0 (-a + b - d + e) with k | k
                  · rcases Int.le_total 0 (a + d - e + f) with k | k
                    · obtain ⟨rfl, rfl, rfl, rfl⟩ := dq01p11 hx (by omega) (by omega) (by omega) (by omega) (by omega)
                      obtain ⟨rfl, rfl, rfl, rfl⟩ := dq00n hr (by omega) (by omega) (by omega)
                      obtain ⟨rfl, rfl, rfl, rfl⟩ := dq01p01 hy (by omega) (by omega) (by omega) (by omega) (by omega)
                      obtain ⟨rfl, rfl, rfl, rfl⟩ := dq01p11 hw (by omega) (by omega) (by omega) (by omega) (by omega)
                      refine ⟨?_, ?_, ?_, ?_, ?_, ?_⟩ <;> omega
                    · obtain ⟨rfl, rfl, rfl, rfl⟩ := dq01p10 hx (by omega) (by omega) (by omega) (by omega) (by omega)
                      obtain ⟨rfl, rfl, rfl, rfl⟩ := dq00n hr (by omega) (by omega) (by omega)
                      obtain ⟨rfl, rfl, rfl, rfl⟩ := dq01p01 hy (by omega) (by omega) (by omega) (by omega) (by omega)
                      obtain ⟨rfl, rfl, rfl, rfl⟩ := dq01p10 hw (by omega) (by omega) (by omega) (by omega) (by omega)
                      refine ⟨?_, ?_, ?_, ?_, ?_, ?_⟩ <;> omega
                  · rcases Int.le_total 0 (a + d - e + f) with k | k
                    · obtain ⟨rfl, rfl, rfl, rfl⟩ := dq01p01 hx (by omega) (by omega) (by omega) (by omega) (by omega)
                      obtain ⟨rfl, rfl, rfl, rfl⟩ := dq00n hr (by omega) (by omega) (by omega)
                      obtain ⟨rfl, rfl, rfl, rfl⟩ := dq00p01 hy (by omega) (by omega) (by omega) (by omega)
                      obtain ⟨rfl, rfl, rfl, rfl⟩ := dq01p11 hw (by omega) (by omega) (by omega) (by omega) (by omega)
                      refine ⟨?_, ?_, ?_, ?_, ?_, ?_⟩ <;> omega
                    · obtain ⟨rfl, rfl, rfl, rfl⟩ := dq01p00 hx (by omega) (by omega) (by omega) (by omega) (by omega)
                      obtain ⟨rfl, rfl, rfl, rfl⟩ := dq00n hr (by omega) (by omega) (by omega)
                      obtain ⟨rfl, rfl, rfl, rfl⟩ := dq00p01 hy (by omega) (by omega) (by omega) (by omega)
                      obtain ⟨rfl, rfl, rfl, rfl⟩ := dq01p10 hw (by omega) (by omega) (by omega) (by omega) (by omega)
                      refine ⟨?_, ?_, ?_, ?_, ?_, ?_⟩ <;> omega
                · obtain ⟨rfl, rfl, rfl, rfl⟩ := dq01n hx (by omega) (by omega) (by omega)
                  obtain ⟨rfl, rfl, rfl, rfl⟩ := dq00n hr (by omega) (by omega) (by omega)
                  obtain ⟨rfl, rfl, rfl, rfl⟩ := dq01p01 hy (by omega) (by omega) (by omega) (by omega) (by omega)
                  obtain ⟨rfl, rfl, rfl, rfl⟩ := dq01n hw (by omega) (by omega) (by omega)
                  refine ⟨?_, ?_, ?_, ?_, ?_, ?_⟩ <;> omega
              · obtain ⟨rfl, rfl, rfl, rfl⟩ := dq01p00 hq (by omega) (by omega) (by omega) (by omega) (by omega)
                obtain ⟨rfl, rfl, rfl, rfl⟩ := dq01n hx (by omega) (by omega) (by omega)
                obtain ⟨rfl, rfl, rfl, rfl⟩ := dq00n hr (by omega) (by omega) (by omega)
                obtain ⟨rfl, rfl, rfl, rfl⟩ := dq01p00 hy (by omega) (by omega) (by omega) (by omega) (by omega)
                obtain ⟨rfl, rfl, rfl, rfl⟩ := dq00n hw (by omega) (by omega) (by omega)
                refine ⟨?_, ?_, ?_, ?_, ?_, ?_⟩ <;> omega
          · obtain ⟨rfl, rfl, rfl, rfl⟩ := dq01n hq (by omega) (by omega) (by omega)
            obtain ⟨rfl, rfl, rfl, rfl⟩ := dq01n hx (by omega) (by omega) (by omega)
            obtain ⟨rfl, rfl, rfl, rfl⟩ := dq01n hr (by omega) (by omega) (by omega)
            obtain ⟨rfl, rfl, rfl, rfl⟩ := dq01n hy (by omega) (by omega) (by omega)
            obtain ⟨rfl, rfl, rfl, rfl⟩ := dq00n hw (by omega) (by omega) (by omega)
            refine ⟨?_, ?_, ?_, ?_, ?_, ?_⟩ <;> omega
        · rcases Int.le_total 0 (c - d - e) with k | k
          · rcases Int.le_total 0 (c - e) with k | k
            · obtain ⟨rfl, rfl, rfl, rfl⟩ := dq00p01 hq (by omega) (by omega) (by omega) (by omega)
              rcases Int.le_total 0 (a - b + d - e) with k | k
              · rcases Int.le_total 0 (a + d - e) with k | k
                · obtain ⟨rfl, rfl, rfl, rfl⟩ := dq00p01 hx (by omega) (by omega) (by omega) (by omega)
                  obtain ⟨rfl, rfl, rfl, rfl⟩ := dq00n hr (by omega) (by omega) (by omega)
                  obtain ⟨rfl, rfl, rfl, rfl⟩ := dq00p01 hy (by omega) (by omega) (by omega) (by omega)
                  obtain ⟨rfl, rfl, rfl, rfl⟩ := dq01p11 hw (by omega) (by omega) (by omega) (by omega) (by omega)
                  refine ⟨?_, ?_, ?_, ?_, ?_, ?_⟩ <;> omega
                · obtain ⟨rfl, rfl, rfl, rfl⟩ := dq00p00 hx (by omega) (by omega) (by omega) (by omega)
                  obtain ⟨rfl, rfl, rfl, rfl⟩ := dq00n hr (by omega) (by omega) (by omega)
                  obtain ⟨rfl, rfl, rfl, rfl⟩ := dq00p01 hy (by omega) (by omega) (by omega) (by omega)
                  obtain ⟨rfl, rfl, rfl, rfl⟩ := dq01p10 hw (by omega) (by omega) (by omega) (by omega) (by omega)
                  refine ⟨?_, ?_, ?_, ?_, ?_, ?_⟩ <;> omega
              · obtain ⟨rfl, rfl, rfl, rfl⟩ := dq00n hx (by omega) (by omega) (by omega)
                obtain ⟨rfl, rfl, rfl, rfl⟩ := dq00n hr (by omega) (by omega) (by omega)
                obtain ⟨rfl, rfl, rfl, rfl⟩ := dq00p01 hy (by omega) (by omega) (by omega) (by omega)
                obtain ⟨rfl, rfl, rfl, rfl⟩ := dq01n hw (by omega) (by omega) (by omega)
                refine ⟨?_, ?_, ?_, ?_, ?_, ?_⟩ <;> omega
            · obtain ⟨rfl, rfl, rfl, rfl⟩ := dq00p00 hq (by omega) (by omega) (by omega) (by omega)
              obtain ⟨rfl, rfl, rfl, rfl⟩ := dq00n hx (by omega) (by omega) (by omega)
              obtain ⟨rfl, rfl, rfl, rfl⟩ := dq00n hr (by omega) (by omega) (by omega)
              obtain ⟨rfl, rfl, rfl, rfl⟩ := dq00p00 hy (by omega) (by omega) (by omega) (by omega)
              obtain ⟨rfl, rfl, rfl, rfl⟩ := dq00n hw (by omega) (by omega) (by omega)
              refine ⟨?_, ?_, ?_, ?_, ?_, ?_⟩ <;> omega
          · obtain ⟨rfl, rfl, rfl, rfl⟩ := dq00n hq (by omega) (by omega) (by omega)
            obtain ⟨rfl, rfl, rfl, rfl⟩ := dq00n hx (by omega) (by omega) (by omega)
            obtain ⟨rfl, rfl, rfl, rfl⟩ := dq00n hr (by omega) (by omega) (by omega)
            obtain ⟨rfl, rfl, rfl, rfl⟩ := dq00n hy (by omega) (by omega) (by omega)
            obtain ⟨rfl, rfl, rfl, rfl⟩ := dq00n hw (by omega) (by omega) (by omega)
            refine ⟨?_, ?_, ?_, ?_, ?_, ?_⟩ <;> omega
end Go.Proofs.Ytnmklkjlcpgjmaa

namespace Go.Proofs.Ytnmklkjlcpgjmaa
open Go.RowKit Go.Sl

/-! ### Braid words that are equal by the relations -/
def LtB (n : Nat) (x : Int) : Prop := x ≠ 0 ∧ x.natAbs < n
inductive BE (n : Nat) : List Int → List Int → Prop
  | refl (u : List Int) : BE n u u
  | symm {u v : List Int} (h : BE n u v) : BE n v u
  | trans {u v w : List Int} (h : BE n u v) (k : BE n v w) : BE n u w
  | ctx (a b : List Int) {u v : List Int} (h : BE n u v) : BE n (a ++ u ++ b) (a ++ v ++ b)
  | cancel {x : Int} (h : LtB n x) : BE n [x, -x] []
  | far {x y : Int} (hx : LtB n x) (hy : LtB n y) (h : x.natAbs + 1 < y.natAbs ∨ y.natAbs + 1 < x.natAbs) : BE n [x, y] [y, x]
  | braid {i : Nat} (h0 : 0 < i) (h : i + 1 < n) : BE n [(i : Int), ((i + 1 : Nat) : Int), (i : Int)] [((i + 1 : Nat) : Int), (i : Int), ((i + 1 : Nat) : Int)]
namespace BE
variable {n : Nat} {u v w a b : List Int}
theorem pre (a : List Int) (h : BE n u v) : BE n (a ++ u) (a ++ v) := by simpa using ctx a [] h
theorem post (b : List Int) (h : BE n u v) : BE n (u ++ b) (v ++ b) := by simpa using ctx [] b h
theorem app (h : BE n u v) (k : BE n a b) : BE n (u ++ a) (v ++ b) := (h.post a).trans (k.pre v)
theorem lt (h : BE n u v) : (∀ x ∈ u, LtB n x) ↔ ∀ x ∈ v, LtB n x := by
  induction h with
  | refl => exact Iff.rfl
  | symm _ ih => exact ih.symm
  | trans _ _ ih1 ih2 => exact ih1.trans ih2
  | ctx a b _ ih =>
    constructor
    all_goals
      intro h x hx
      simp only [List.mem_append] at hx h
      rcases hx with (hx | hx) | hx
      · exact h x (.inl (.inl hx))
      · first
        | exact ih.1 (fun y hy => h y (.inl (.inr hy))) x hx
        | exact ih.2 (fun y hy => h y (.inl (.inr hy))) x hx
      · exact h x (.inr hx)
  | cancel h => exact ⟨fun _ x hx => by simp at hx, fun _ x hx => by
      simp only [List.mem_cons, List.not_mem_nil, or_false] at hx
      rcases hx with rfl | rfl
      · exact h
      · exact ⟨by have := h.1; omega, by have := h.2; omega⟩⟩
  | far hx hy h => exact ⟨fun h x hx => h x (by simp only [List.mem_cons, List.not_mem_nil, or_false] at hx ⊢; exact hx.symm), fun h x hx => h x (by simp only [List.mem_cons, List.not_mem_nil, or_false] at hx ⊢; exact hx.symm)⟩
  | @braid i h0 h =>
    have h1 : LtB n (i : Int) := ⟨by omega, by omega⟩
    have h2 : LtB n ((i + 1 : Nat) : Int) := ⟨by omega, by omega⟩
    constructor
    all_goals
      intro _ x hx
      simp only [List.mem_cons, List.not_mem_nil, or_false] at hx
      rcases hx with rfl | rfl | rfl <;> assumption
theorem rev (h : BE n u v) : BE n u.reverse v.reverse := by
  induction h with
  | refl => exact refl _
  | symm _ ih => exact ih.symm
  | trans _ _ ih1 ih2 => exact ih1.trans ih2
  | ctx a b _ ih =>
    simp only [List.reverse_append, List.append_assoc]
    have := ctx b.reverse a.reverse ih
    simpa using this
  | @cancel x h =>
    have := cancel (n := n) (x := -x) ⟨by have := h.1; omega, by have := h.2; omega⟩
    simpa using this
  | far hx hy h => simpa using far hy hx h.symm
  | braid h0 h => simpa using braid h0 h
end BE

/-! ### The action -/
abbrev Cds := Nat → Int × Int
def dactQ (v : Cds) (i : Nat) (q : Int × Int × Int × Int) : Cds := fun k => if k = i then (q.1, q.2.1) else if k = i + 1 then (q.2.2.1, q.2.2.2) else v k
def dact (v : Cds) (x : Int) : Cds := dactQ v x.natAbs (if 0 < x then dynP (v x.natAbs).1 (v x.natAbs).2 (v (x.natAbs + 1)).1 (v (x.natAbs + 1)).2 else dynN (v x.natAbs).1 (v x.natAbs).2 (v (x.natAbs + 1)).1 (v (x.natAbs + 1)).2)
def dactW (v : Cds) (w : List Int) : Cds := w.foldl dact v
theorem dactW_append (v : Cds) (a b : List Int) : dactW v (a ++ b) = dactW (dactW v a) b := by simp [dactW]
theorem dactW_cons (v : Cds) (x : Int) (b : List Int) : dactW v (x :: b) = dactW (dact v x) b := rfl
theorem dact_other (v : Cds) (x : Int) {k : Nat} (h1 : k ≠ x.natAbs) (h2 : k ≠ x.natAbs + 1) : dact v x k = v k := by unfold dact dactQ; rw [if_neg h1, if_neg h2]
theorem dact_cancel (v : Cds) {x : Int} (h : x ≠ 0) : dact (dact v x) (-x) = v := by
  funext k
  by_cases h1 : k = x.natAbs
  · subst h1
    by_cases hp : 0 < x
    · have := dyn_pn (v x.natAbs).1 (v x.natAbs).2 (v (x.natAbs + 1)).1 (v (x.natAbs + 1)).2
      dsimp only at this
      unfold dact dactQ
      simp only [Int.natAbs_neg, if_true, hp, show ¬ 0 < -x by omega, if_false, Nat.succ_ne_self, this]
    · have := dyn_np (v x.natAbs).1 (v x.natAbs).2 (v (x.natAbs + 1)).1 (v (x.natAbs + 1)).2
      dsimp only at this
      unfold dact dactQ
      simp only [Int.natAbs_neg, if_true, hp, show 0 < -x by omega, if_false, Nat.succ_ne_self, this]
  · by_cases h2 : k = x.natAbs + 1
    · subst h2
      by_cases hp : 0 < x
      · have := dyn_pn (v x.natAbs).1 (v x.natAbs).2 (v (x.natAbs + 1)).1 (v (x.natAbs + 1)).2
        dsimp only at this
        unfold dact dactQ
        simp only [Int.natAbs_neg, if_true, hp, show ¬ 0 < -x by omega, if_false, Nat.succ_ne_self, this]
      · have := dyn_np (v x.natAbs).1 (v x.natAbs).2 (v (x.natAbs + 1)).1 (v (x.natAbs + 1)).2
        dsimp only at this
        unfold dact dactQ
        simp only [Int.natAbs_neg, if_true, hp, show 0 < -x by omega, if_false, Nat.succ_ne_self, this]
    · rw [dact_other _ _ (by rw [Int.natAbs_neg]; exact h1) (by rw [Int.natAbs_neg]; exact h2), dact_other _ _ h1 h2]
theorem dact_far (v : Cds) {x y : Int} (h : x.natAbs + 1 < y.natAbs ∨ y.natAbs + 1 < x.natAbs) : dact (dact v x) y = dact (dact v y) x := by
  have e1 : dact v x y.natAbs = v y.natAbs := dact_other _ _ (by omega) (by omega)
  have e2 : dact v x (y.natAbs + 1) = v (y.natAbs + 1) := dact_other _ _ (by omega) (by omega)
  have e3 : dact v y x.natAbs = v x.natAbs := dact_other _ _ (by omega) (by omega)
  have e4 : dact v y (x.natAbs + 1) = v (x.natAbs + 1) := dact_other _ _ (by omega) (by omega)
  funext k
  by_cases hk : k = y.natAbs ∨ k = y.natAbs + 1
  · rw [dact_other (dact v y) x (k := k) (by omega) (by omega)]
    unfold dact at e1 e2 ⊢
    rw [e1, e2]
    unfold dactQ
    rcases hk with rfl | rfl
    · simp
    · simp
  · rw [dact_other (dact v x) y (k := k) (by omega) (by omega)]
    by_cases hx : k = x.natAbs ∨ k = x.natAbs + 1
    · unfold dact at e3 e4 ⊢
      rw [e3, e4]
      unfold dactQ
      rcases hx with rfl | rfl
      · simp
      · simp
    · rw [dact_other _ _ (by omega) (by omega), dact_other _ _ (by omega) (by omega), dact_other _ _ (by omega) (by omega)]
theorem dact_pos (v : Cds) {i : Nat} (h : 0 < i) {a b c d a' b' c' d' : Int} (h1 : v i = (a, b)) (h2 : v (i + 1) = (c, d)) (hq : dynP a b c d = (a', b', c', d')) : dact v (i : Int) i = (a', b') ∧ dact v (i : Int) (i + 1) = (c', d') := by
  unfold dact dactQ
  rw [Int.natAbs_natCast, h1, h2, hq]
  simp [h]
theorem quad (q : Int × Int × Int × Int) : ∃ a b c d, q = (a, b, c, d) := ⟨q.1, q.2.1, q.2.2.1, q.2.2.2, rfl⟩
theorem dact_braid (v : Cds) {i : Nat} (h : 0 < i) : dactW v [(i : Int), ((i + 1 : Nat) : Int), (i : Int)] = dactW v [((i + 1 : Nat) : Int), (i : Int), ((i + 1 : Nat) : Int)] := by
  obtain ⟨a, b, h1⟩ : ∃ a b, v i = (a, b) := ⟨_, _, rfl⟩
  obtain ⟨c, d, h2⟩ : ∃ c d, v (i + 1) = (c, d) := ⟨_, _, rfl⟩
  obtain ⟨e, f, h3⟩ : ∃ e f, v (i + 1 + 1) = (e, f) := ⟨_, _, rfl⟩
  obtain ⟨a1, b1, c1, d1, hp⟩ := quad (dynP a b c d)
  obtain ⟨c2, d2, e2, f2, hx⟩ := quad (dynP c1 d1 e f)
  obtain ⟨a3, b3, c3, d3, hy⟩ := quad (dynP a1 b1 c2 d2)
  obtain ⟨C1, D1, E1, F1, hq⟩ := quad (dynP c d e f)
  obtain ⟨A2, B2, C2, D2, hr⟩ := quad (dynP a b C1 D1)
  obtain ⟨C3, D3, E3, F3, hw⟩ := quad (dynP C2 D2 E1 F1)
  obtain ⟨rfl, rfl, rfl, rfl, rfl, rfl⟩ := dyn_all hp hq hx hr hy hw
  have o := fun (v : Cds) (j k : Nat) (hk1 : k ≠ j) (hk2 : k ≠ j + 1) => dact_other v (j : Int) (k := k) (by simpa using hk1) (by simpa using hk2)
  have l1 := dact_pos v h h1 h2 hp
  have l2 := dact_pos (dact v (i : Int)) (i := i + 1) (by omega) l1.2 ((o v i _ (by omega) (by omega)).trans h3) hx
  have l3 := dact_pos (dact (dact v (i : Int)) ((i + 1 : Nat) : Int)) h ((o _ (i + 1) _ (by omega) (by omega)).trans l1.1) l2.1 hy
  have r1 := dact_pos v (i := i + 1) (by omega) h2 h3 hq
  have r2 := dact_pos (dact v ((i + 1 : Nat) : Int)) h ((o v (i + 1) _ (by omega) (by omega)).trans h1) r1.1 hr
  have r3 := dact_pos (dact (dact v ((i + 1 : Nat) : Int)) (i : Int)) (i := i + 1) (by omega) r2.2 ((o _ i _ (by omega) (by omega)).trans r1.2) hw
  show dact (dact (dact v _) _) _ = dact (dact (dact v _) _) _
  funext k
  by_cases k1 : k = i
  · subst k1
    rw [l3.1, o _ (k + 1) k (by omega) (by omega), r2.1]
  · by_cases k2 : k = i + 1
    · subst k2
      rw [l3.2, r3.1]
    · by_cases k3 : k = i + 1 + 1
      · subst k3
        rw [o _ i _ (by omega) (by omega), l2.2, r3.2]
      · rw [o _ i k (by omega) (by omega), o _ (i + 1) k (by omega) (by omega), o _ i k (by omega) (by omega), o _ (i + 1) k (by omega) (by omega), o _ i k (by omega) (by omega), o _ (i + 1) k (by omega) (by omega)]
theorem BE.act {n : Nat} {u v : List Int} (h : BE n u v) : ∀ c : Cds, dactW c u = dactW c v := by
  induction h with
  | refl => exact fun _ => rfl
  | symm _ ih => exact fun c => (ih c).symm
  | trans _ _ ih1 ih2 => exact fun c => (ih1 c).trans (ih2 c)
  | ctx a b _ ih => exact fun c => by rw [dactW_append, dactW_append, dactW_append, dactW_append, ih]
  | cancel h => exact fun c => dact_cancel c h.1
  | far hx hy h => exact fun c => dact_far c h
  | braid h0 h => exact fun c => dact_braid c h0

/-! ### Words with a sign -/
/-- Letters of index m or more; those of index m have the sign s. -/
def Mono (m : Nat) (s : Int) (w : List Int) : Prop := ∀ x ∈ w, m ≤ x.natAbs ∧ (x.natAbs = m → 0 < s * x)
/-- .. and there is one of index m. -/
def SPos (m : Nat) (s : Int) (w : List Int) : Prop := Mono m s w ∧ ∃ x ∈ w, x.natAbs = m
def SFree (m : Nat) (w : List Int) : Prop := ∀ x ∈ w, m < x.natAbs
theorem dact_above (c : Cds) {x : Int} {m : Nat} (h : m < x.natAbs) : dact c x m = c m := dact_other _ _ (by omega) (by omega)
theorem free_keep {m : Nat} (w : List Int) : ∀ c : Cds, SFree m w → dactW c w m = c m := by
  induction w with
  | nil => exact fun _ _ => rfl
  | cons x w ih =>
    intro c h
    rw [dactW_cons, ih _ fun y hy => h y (by simp [hy]), dact_above _ (h x (by simp))]
theorem pos_rise (c : Cds) {m : Nat} (hm : 0 < m) : ((c m) = (0, 1) ∨ 0 < (c m).1) → 0 < (dact c (m : Int) m).1 := by
  obtain ⟨a, b, h1⟩ : ∃ a b, c m = (a, b) := ⟨_, _, rfl⟩
  obtain ⟨x, y, h2⟩ : ∃ x y, c (m + 1) = (x, y) := ⟨_, _, rfl⟩
  obtain ⟨a', b', c', d', hq⟩ := quad (dynP a b x y)
  rw [(dact_pos c hm h1 h2 hq).1, h1]
  simp only [dynP, Prod.mk.injEq] at hq
  intro h
  rcases h with h | h
  · obtain ⟨rfl, rfl⟩ := Prod.mk.inj h
    show 0 < a'
    omega
  · have h : 0 < a := h
    show 0 < a'
    omega
theorem spos_rise {m : Nat} (hm : 0 < m) (w : List Int) : ∀ c : Cds, (c m = (0, 1) ∨ 0 < (c m).1) → Mono m 1 w → ((∃ x ∈ w, x.natAbs = m) ∨ 0 < (c m).1) → 0 < (dactW c w m).1 := by
  induction w with
  | nil => exact fun c _ _ h => h.elim (fun ⟨x, hx, _⟩ => by simp at hx) id
  | cons x w ih =>
    intro c hc hM hx
    have h1 := hM x (by simp)
    have hM2 : Mono m 1 w := fun y hy => hM y (by simp [hy])
    rw [dactW_cons]
    by_cases e : x.natAbs = m
    · have hp := h1.2 e
      obtain rfl : x = (m : Int) := by omega
      have := pos_rise c hm hc
      exact ih _ (.inr this) hM2 (.inr this)
    · have hk := dact_above c (x := x) (m := m) (by omega)
      refine ih _ (by rw [hk]; exact hc) hM2 ?_
      rw [hk]
      rcases hx with ⟨y, hy, hym⟩ | hx
      · rcases List.mem_cons.1 hy with rfl | hy
        · exact absurd hym e
        · exact .inl ⟨y, hy, hym⟩
      · exact .inr hx
/-- A word with a positive sign is not equal to one without letters of this index. -/
theorem spos_free {n m : Nat} (hm : 0 < m) {u v : List Int} (hu : SPos m 1 u) (hv : SFree m v) : ¬ BE n u v := fun h => by
  have h1 := spos_rise hm u (fun _ => (0, 1)) (.inl rfl) hu.1 (.inl hu.2)
  rw [h.act, free_keep v _ hv] at h1
  exact absurd h1 (by decide)
end Go.Proofs.Ytnmklkjlcpgjmaa


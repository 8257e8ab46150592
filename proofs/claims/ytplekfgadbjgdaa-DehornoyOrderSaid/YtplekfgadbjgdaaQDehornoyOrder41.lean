/- The order of braids by signs: plain law. No program. -/
import Derived.Test.YtplekfgadbjgdaaQDehornoyOrder0
import Derived.Test.YtplekfgadbjgdaaQDehornoyOrder1
import Derived.Test.YtplekfgadbjgdaaQDehornoyOrder2
import Derived.Test.YtplekfgadbjgdaaQDehornoyOrder3
import Derived.Test.YtplekfgadbjgdaaQDehornoyOrder4
import Derived.Test.YtplekfgadbjgdaaQDehornoyOrder5
import Derived.Test.YtplekfgadbjgdaaQDehornoyOrder6
import Derived.Test.YtplekfgadbjgdaaQDehornoyOrder7
import Derived.Test.YtplekfgadbjgdaaQDehornoyOrder8
import Derived.Test.YtplekfgadbjgdaaQDehornoyOrder9
import Derived.Test.YtplekfgadbjgdaaQDehornoyOrder10
import Derived.Test.YtplekfgadbjgdaaQDehornoyOrder11
import Derived.Test.YtplekfgadbjgdaaQDehornoyOrder12
import Derived.Test.YtplekfgadbjgdaaQDehornoyOrder13
import Derived.Test.YtplekfgadbjgdaaQDehornoyOrder14
import Derived.Test.YtplekfgadbjgdaaQDehornoyOrder15
import Derived.Test.YtplekfgadbjgdaaQDehornoyOrder16
import Derived.Test.YtplekfgadbjgdaaQDehornoyOrder17
import Derived.Test.YtplekfgadbjgdaaQDehornoyOrder18
import Derived.Test.YtplekfgadbjgdaaQDehornoyOrder19
import Derived.Test.YtplekfgadbjgdaaQDehornoyOrder20
import Derived.Test.YtplekfgadbjgdaaQDehornoyOrder21
import Derived.Test.YtplekfgadbjgdaaQDehornoyOrder22
import Derived.Test.YtplekfgadbjgdaaQDehornoyOrder23
import Derived.Test.YtplekfgadbjgdaaQDehornoyOrder24
import Derived.Test.YtplekfgadbjgdaaQDehornoyOrder25
import Derived.Test.YtplekfgadbjgdaaQDehornoyOrder26
import Derived.Test.YtplekfgadbjgdaaQDehornoyOrder27
import Derived.Test.YtplekfgadbjgdaaQDehornoyOrder28
import Derived.Test.YtplekfgadbjgdaaQDehornoyOrder29
import Derived.Test.YtplekfgadbjgdaaQDehornoyOrder30
import Derived.Test.YtplekfgadbjgdaaQDehornoyOrder31
import Derived.Test.YtplekfgadbjgdaaQDehornoyOrder32
import Derived.Test.YtplekfgadbjgdaaQDehornoyOrder33
import Derived.Test.YtplekfgadbjgdaaQDehornoyOrder34
import Derived.Test.YtplekfgadbjgdaaQDehornoyOrder35
import Derived.Test.YtplekfgadbjgdaaQDehornoyOrder36
import Derived.Test.YtplekfgadbjgdaaQDehornoyOrder37
import Derived.Test.YtplekfgadbjgdaaQDehornoyOrder38
import Derived.Test.YtplekfgadbjgdaaQDehornoyOrder39
import Derived.Test.YtplekfgadbjgdaaQDehornoyOrder40
import Derived.RangeFuncNested
import Derived.RangeFuncCalls
import Derived.OrdersIn
import Derived.OrdersHeld
import Derived.Deep.RegionHeld
namespace Go.Proofs.Ytplekfgadbjgdaa
open Go.RowKit Go.Sl

def Sg (n : Nat) (xs : List Int) (s : Int) : Prop := ∃ ys, LtW n ys ∧ BE n ys xs ∧ ((ys = [] ∧ s = 0) ∨ ∃ k, 0 < k ∧ (s = 1 ∨ s = -1) ∧ SPos k s ys)
theorem SgnOf.sg {n : Nat} {xs : List Int} {s : Int} (h : SgnOf n xs s) : Sg n xs s := by
  obtain ⟨ys, _, a, b, c⟩ := h
  exact ⟨ys, a, b, c⟩
/-- The sign is one alone. -/
theorem sg_uniq {n : Nat} {xs ys : List Int} {s t : Int} (h : Sg n xs s) (k : Sg n ys t) (e : BE n xs ys) : s = t := by
  obtain ⟨u, lu, eu, hu⟩ := h
  obtain ⟨v, lv, ev, hv⟩ := k
  have euv : BE n u v := eu.trans (e.trans ev.symm)
  have key : ∀ {u v : List Int} {s t : Int} {k : Nat}, LtW n u → LtW n v → BE n u v → 0 < k → (s = 1 ∨ s = -1) → SPos k s u → ((v = [] ∧ t = 0) ∨ ∃ k, 0 < k ∧ (t = 1 ∨ t = -1) ∧ SPos k t v) → s ≠ t → (∀ y ∈ v, k ≤ y.natAbs) → False := by
    rintro u v s t k lu lv e hk hs ⟨hm, z, hz, hzk⟩ hv hne hge
    have hinv : Mono k s (invB v) := by
      intro y hy
      unfold invB at hy
      rw [List.mem_reverse] at hy
      obtain ⟨x, hx, rfl⟩ := List.mem_map.1 hy
      rw [Int.natAbs_neg]
      refine ⟨hge x hx, fun ek => ?_⟩
      rcases hv with ⟨rfl, _⟩ | ⟨k', hk', ht, hm', z', hz', hzk'⟩
      · simp at hx
      · have hkk : k' = k := by
          have h1 := (hm' x hx).1
          have h2 := hge z' hz'
          omega
        subst hkk
        have h3 := (hm' x hx).2 ek
        have hts : t = -s := by rcases hs with rfl | rfl <;> rcases ht with rfl | rfl <;> first | rfl | exact absurd rfl hne
        rw [hts] at h3
        rw [Int.mul_neg, ← Int.neg_mul]; exact h3
    refine bey_irr (n := n) (a := []) (b := []) hk hs (fun x hx => by simp at hx) ⟨u ++ invB v, ⟨hm.app hinv, z, by simp [hz], hzk⟩, lu.app (invB_lt lv), ?_⟩ (Sam.refl _)
    rw [List.nil_append]
    exact (e.post _).trans (BE.mulInv lv)
  apply Classical.byContradiction
  intro hne
  have nil : ∀ {k : Nat}, ∀ y ∈ ([] : List Int), k ≤ y.natAbs := fun y hy => by simp at hy
  rcases hu with ⟨rfl, rfl⟩ | ⟨k, hk, hs, hsp⟩
  · rcases hv with ⟨rfl, rfl⟩ | ⟨k', hk', ht, htp⟩
    · exact hne rfl
    · exact key lv lu euv.symm hk' ht htp (.inl ⟨rfl, rfl⟩) (fun h => hne h.symm) nil
  · rcases hv with ⟨rfl, rfl⟩ | ⟨k', hk', ht, htp⟩
    · exact key lu lv euv hk hs hsp (.inl ⟨rfl, rfl⟩) hne nil
    · rcases Nat.le_total k k' with hkk | hkk
      · exact key lu lv euv hk hs hsp (.inr ⟨k', hk', ht, htp⟩) hne fun y hy => by have := (htp.1 y hy).1; omega
      · exact key lv lu euv.symm hk' ht htp (.inr ⟨k, hk, hs, hsp⟩) (fun h => hne h.symm) fun y hy => by have := (hsp.1 y hy).1; omega

theorem Sg.mul {n : Nat} {xs ys : List Int} {s : Int} (h : Sg n xs s) (k : Sg n ys s) (h0 : s ≠ 0) : Sg n (xs ++ ys) s := by
  obtain ⟨u, lu, eu, hu⟩ := h
  obtain ⟨v, lv, ev, hv⟩ := k
  rcases hu with ⟨_, e⟩ | ⟨k, hk, hs, hm, z, hz, hzk⟩
  · exact absurd e h0
  rcases hv with ⟨_, e⟩ | ⟨k', hk', _, hm', z', hz', hzk'⟩
  · exact absurd e h0
  refine ⟨u ++ v, lu.app lv, (eu.post v).trans (ev.pre xs), .inr ?_⟩
  rcases Nat.le_total k k' with hkk | hkk
  · exact ⟨k, hk, hs, Mono.app hm (fun y hy => ⟨by have := (hm' y hy).1; omega, fun e => (hm' y hy).2 (by have := (hm' y hy).1; omega)⟩), z, by simp [hz], hzk⟩
  · exact ⟨k', hk', hs, Mono.app (fun y hy => ⟨by have := (hm y hy).1; omega, fun e => (hm y hy).2 (by have := (hm y hy).1; omega)⟩) hm', z', by simp [hz'], hzk'⟩
theorem inv_lt' {n : Nat} {xs : List Int} (h : LtW n xs) : LtW n (invL xs) := invB_lt h
/-- All that is asked of the order. -/
theorem order_law {n : Nat} (h2 : 2 ≤ n) (h6 : n ≤ 6) {xs ys zs : List Int} (hx : LtW n xs) (hy : LtW n ys) (hz : LtW n zs) {s1 s2 s3 s4 s5 : Int} (k1 : SgnOf n (invL xs ++ ys) s1) (k2 : SgnOf n (invL ys ++ xs) s2) (k3 : SgnOf n (invL ys ++ zs) s3) (k4 : SgnOf n (invL xs ++ zs) s4) (k5 : SgnOf n (invL (zs ++ xs) ++ (zs ++ ys)) s5) {c d : St} (hc : Cn n (mulW n (0, []) xs) c) (hd : Cn n (mulW n (0, []) ys) d) :
    s2 = -s1 ∧ s5 = s1 ∧ (s1 = 0 ↔ c = d) ∧ (s1 = s3 → s1 ≠ 0 → s4 = s1) := by
  have e1 : BE n (invL xs ++ xs) [] := BE.invMul hx
  have e2 : BE n (xs ++ invL xs) [] := BE.mulInv hx
  have e3 : BE n (ys ++ invL ys) [] := BE.mulInv hy
  have e4 : BE n (invL zs ++ zs) [] := BE.invMul hz
  refine ⟨?_, ?_, ?_, fun e h0 => ?_⟩
  · have h3 : invB (invL xs ++ ys) = invL ys ++ xs := by
      rw [invB_append, show invB (invL xs) = xs from invB_invB xs]; rfl
    have := sgn_neg_word k1 ((inv_lt' hx).app hy) (t := s2) (by rw [h3]; exact k2)
    omega
  · refine sg_uniq k5.sg k1.sg ?_
    have h3 : invL (zs ++ xs) = invL xs ++ invL zs := invB_append zs xs
    rw [h3]
    have := BE.ctx (invL xs) ys e4.symm
    simpa using this.symm
  · have hb : s1 = 0 ↔ BE n xs ys := by
      constructor
      · rintro rfl
        obtain ⟨u, _, lu, eu, hu⟩ := k1
        rcases hu with ⟨rfl, _⟩ | ⟨k, _, hs, _⟩
        · have h3 := eu.pre xs
          have h4 := e2.post ys
          simp only [List.append_assoc, List.append_nil, List.nil_append] at h3 h4
          exact h3.trans h4
        · rcases hs with h | h <;> exact absurd h (by decide)
      · intro h
        refine sg_uniq k1.sg (t := 0) ⟨[], fun x hx => by simp at hx, .refl _, .inl ⟨rfl, rfl⟩⟩ ?_
        exact (h.symm.pre (invL xs)).trans e1
    rw [hb]
    constructor
    · intro h
      have h3 : Eqv n (mulW n (0, []) xs) (mulW n (0, []) ys) := h.eqv (by omega) hx (good_nil n)
      exact cn_unique ((eqv_cn (by omega) h2 h3 c).1 hc) hd
    · rintro rfl
      exact BE.of_eqv (by omega) hx hy ((cn_eqv (by omega) h2 hc).trans (cn_eqv (by omega) h2 hd).symm)
  · have h3 := (k1.sg).mul (ys := invL ys ++ zs) (by rw [e]; exact k3.sg) h0
    refine sg_uniq k4.sg h3 ?_
    have := BE.ctx (invL xs) zs e3
    simpa using this.symm
end Go.Proofs.Ytplekfgadbjgdaa


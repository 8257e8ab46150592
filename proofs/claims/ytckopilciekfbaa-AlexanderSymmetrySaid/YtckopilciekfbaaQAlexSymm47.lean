/- The components of a closed braid: plain law. -/
import Derived.Test.YtckopilciekfbaaQAlexSymm0
import Derived.Test.YtckopilciekfbaaQAlexSymm1
import Derived.Test.YtckopilciekfbaaQAlexSymm2
import Derived.Test.YtckopilciekfbaaQAlexSymm4
import Derived.Test.YtckopilciekfbaaQAlexSymm7
import Derived.Test.YtckopilciekfbaaQAlexSymm9
import Derived.Test.YtckopilciekfbaaQAlexSymm10
import Derived.Test.YtckopilciekfbaaQAlexSymm15
import Derived.Test.YtckopilciekfbaaQAlexSymm16
import Derived.Test.YtckopilciekfbaaQAlexSymm23

namespace Go.Proofs.Ytckopilciekfbaa
open Go.RowKit Go.Sl

/-- The first k points of the cycle of i. -/
def orb (a : List Int) (i k : Nat) : List Int := (List.range k).map fun t => ((itr a t i : Nat) : Int)
theorem orb_succ (a : List Int) (i k : Nat) : orb a i (k + 1) = orb a i k ++ [((itr a k i : Nat) : Int)] := by simp [orb, List.range_succ]
theorem orb_length (a : List Int) (i k : Nat) : (orb a i k).length = k := by simp [orb]
theorem mem_orb {a : List Int} {i k : Nat} {x : Int} : x ∈ orb a i k ↔ ∃ t, t < k ∧ ((itr a t i : Nat) : Int) = x := by simp [orb]

/-- The components so far. -/
structure Comps (a : List Int) (D : List Bool) (C : List (List Int)) : Prop where
  mem : ∀ k, k < C.length → ∀ x ∈ nthr C k, 0 ≤ x ∧ x.toNat < a.length ∧ at? D x.toNat = true
  dis : ∀ k l, k < C.length → l < C.length → ∀ x, x ∈ nthr C k → x ∈ nthr C l → k = l
  cov : ∀ i, i < a.length → at? D i = true → ∃ k, k < C.length ∧ (i : Int) ∈ nthr C k
  clo : ∀ k, k < C.length → ∀ x ∈ nthr C k, nth a x.toNat ∈ nthr C k
  srt : ∀ k, k < C.length → SortedL (nthr C k)
theorem comps_nil (a : List Int) : Comps a (List.replicate a.length false) [] :=
  ⟨fun k h => absurd h (by simp), fun k l h => absurd h (by simp), fun i _ h => (by rw [at_replicate] at h; cases h), fun k h => absurd h (by simp), fun k h => absurd h (by simp)⟩
theorem Comps.stay {a : List Int} {D E : List Bool} {C : List (List Int)} {i : Nat} (h : Comps a D C) (h1 : Cyc1 a D i 0 E) : Comps a E C := by
  have e : ∀ j, at? E j = true ↔ at? D j = true := fun j => by
    rw [h1.mark]
    exact ⟨fun h => h.elim id (fun ⟨t, ht, _⟩ => by omega), .inl⟩
  exact ⟨fun k hk x hx => by rw [e]; exact h.mem k hk x hx, h.dis, fun i hi hd => h.cov i hi ((e i).1 hd), h.clo, h.srt⟩
theorem Comps.step {a : List Int} {D E : List Bool} {C : List (List Int)} {L : List Nat} {i k : Nat} {ys : List Int} (ha : IsPerm a) (hi : i < a.length) (h : Comps a D C) (hc : Cyc a D L) (h1 : Cyc1 a D i k E) {L' : List Nat} (hc2 : Cyc a E L')
    (hp : ys.Perm (orb a i k)) (hs : SortedL ys) : Comps a E (C ++ [ys]) := by
  have hm : ∀ x, x ∈ ys ↔ ∃ t, t < k ∧ ((itr a t i : Nat) : Int) = x := fun x => by rw [hp.mem_iff, mem_orb]
  have hlt : ∀ t, itr a t i < a.length := fun t => itr_lt ha t hi
  have hl : (C ++ [ys]).length = C.length + 1 := by simp
  refine ⟨fun j hj x hx => ?_, fun j l hj hl' x hx hx' => ?_, fun j hj hjm => ?_, fun j hj x hx => ?_, fun j hj => ?_⟩
  · rw [nthr_snocL] at hx
    by_cases e : j = C.length
    · rw [if_pos e] at hx
      obtain ⟨t, ht, rfl⟩ := (hm x).1 hx
      refine ⟨by omega, by simpa using hlt t, ?_⟩
      simp only [Int.toNat_natCast]
      exact (h1.mark _).2 (.inr ⟨t, ht, rfl⟩)
    · rw [if_neg e] at hx
      obtain ⟨h2, h3, h4⟩ := h.mem j (by omega) x hx
      exact ⟨h2, h3, (h1.mark _).2 (.inl h4)⟩
  · rw [nthr_snocL] at hx hx'
    have key : ∀ j, j < C.length → ∀ x, x ∈ nthr C j → ¬ x ∈ ys := fun j hj x hx hy => by
      obtain ⟨t, ht, rfl⟩ := (hm x).1 hy
      have := (h.mem j hj _ hx).2.2
      simp only [Int.toNat_natCast] at this
      rw [h1.new t ht] at this; cases this
    by_cases e : j = C.length <;> by_cases e' : l = C.length
    · omega
    · rw [if_pos e] at hx; rw [if_neg e'] at hx'
      exact absurd hx (key l (by omega) x hx')
    · rw [if_neg e] at hx; rw [if_pos e'] at hx'
      exact absurd hx' (key j (by omega) x hx)
    · rw [if_neg e] at hx; rw [if_neg e'] at hx'
      exact h.dis j l (by omega) (by omega) x hx hx'
  · rcases (h1.mark j).1 hjm with h2 | ⟨t, ht, he⟩
    · obtain ⟨l, hl', hx⟩ := h.cov j hj h2
      exact ⟨l, by omega, by rw [nthr_snocL, if_neg (by omega)]; exact hx⟩
    · exact ⟨C.length, by omega, by rw [nthr_snocL, if_pos rfl]; exact (hm _).2 ⟨t, ht, by rw [he]⟩⟩
  · rw [nthr_snocL] at hx ⊢
    by_cases e : j = C.length
    · rw [if_pos e] at hx ⊢
      obtain ⟨t, ht, rfl⟩ := (hm x).1 hx
      simp only [Int.toNat_natCast]
      have hr := ha.range _ (nth_mem (hlt t))
      have h2 := hc2.forth (itr a t i) (hlt t) ((h1.mark _).2 (.inr ⟨t, ht, rfl⟩))
      rcases (h1.mark _).1 h2 with h3 | ⟨s, hs', he⟩
      · have := hc.back _ (hlt t) h3
        rw [h1.new t ht] at this; cases this
      · exact (hm _).2 ⟨s, hs', by rw [he]; omega⟩
    · rw [if_neg e] at hx ⊢
      exact h.clo j (by omega) x hx
  · rw [nthr_snocL]
    by_cases e : j = C.length
    · rw [if_pos e]; exact hs
    · rw [if_neg e]; exact h.srt j (by omega)

/-- Every strand has its component. -/
structure LabOK (a : List Int) (C : List (List Int)) (lab : Nat → Nat) : Prop where
  lt : ∀ i, i < a.length → lab i < C.length
  mem : ∀ k, k < C.length → ∀ x ∈ nthr C k, 0 ≤ x ∧ x.toNat < a.length ∧ lab x.toNat = k
  cov : ∀ i, i < a.length → (i : Int) ∈ nthr C (lab i)
  cyc : ∀ i, i < a.length → lab (nth a i).toNat = lab i
  srt : ∀ k, k < C.length → SortedL (nthr C k)
theorem Comps.lab {a : List Int} {D : List Bool} {C : List (List Int)} (ha : IsPerm a) (h : Comps a D C) (hd : ∀ i, i < a.length → at? D i = true) : ∃ lab, LabOK a C lab := by
  have h1 : ∀ i, ∃ k : Nat, i < a.length → k < C.length ∧ (i : Int) ∈ nthr C k := fun i => by
    by_cases hi : i < a.length
    · obtain ⟨k, hk⟩ := h.cov i hi (hd i hi)
      exact ⟨k, fun _ => hk⟩
    · exact ⟨0, fun h => absurd h hi⟩
  obtain ⟨lab, hl⟩ := Classical.skolem.1 h1
  have hu : ∀ k, k < C.length → ∀ x ∈ nthr C k, lab x.toNat = k := fun k hk x hx => by
    obtain ⟨h0, h2, _⟩ := h.mem k hk x hx
    obtain ⟨h3, h4⟩ := hl x.toNat h2
    rw [Int.toNat_of_nonneg h0] at h4
    exact h.dis _ _ h3 hk x h4 hx
  refine ⟨lab, fun i hi => (hl i hi).1, fun k hk x hx => ⟨(h.mem k hk x hx).1, (h.mem k hk x hx).2.1, hu k hk x hx⟩, fun i hi => (hl i hi).2, fun i hi => ?_, h.srt⟩
  exact hu _ (hl i hi).1 _ (by simpa using h.clo _ (hl i hi).1 _ (hl i hi).2)

end Go.Proofs.Ytckopilciekfbaa


/- The full twist on three strands: it goes with every word; images of a word, the full twist and the word's inverse are short. No program. -/
import Derived.Test.YtnmklkjlcpgjmaaQTopWordProblem0
import Derived.Test.YtnmklkjlcpgjmaaQTopWordProblem1
import Derived.Test.YtnmklkjlcpgjmaaQTopWordProblem2
import Derived.Test.YtnmklkjlcpgjmaaQTopWordProblem3
import Derived.Test.YtnmklkjlcpgjmaaQTopWordProblem4
import Derived.Test.YtnmklkjlcpgjmaaQTopWordProblem5
import Derived.Test.YtnmklkjlcpgjmaaQTopWordProblem6
import Derived.Test.YtnmklkjlcpgjmaaQTopWordProblem7
import Derived.Test.YtnmklkjlcpgjmaaQTopWordProblem8
import Derived.Test.YtnmklkjlcpgjmaaQTopWordProblem9
import Derived.Test.YtnmklkjlcpgjmaaQTopWordProblem10
import Derived.Test.YtnmklkjlcpgjmaaQTopWordProblem11
import Derived.Test.YtnmklkjlcpgjmaaQTopWordProblem12
import Derived.Test.YtnmklkjlcpgjmaaQTopWordProblem13
import Derived.Test.YtnmklkjlcpgjmaaQTopWordProblem15
import Derived.Test.YtnmklkjlcpgjmaaQTopWordProblem16
import Derived.Test.YtnmklkjlcpgjmaaQTopWordProblem17
import Derived.Test.YtnmklkjlcpgjmaaQTopWordProblem18
import Derived.Test.YtnmklkjlcpgjmaaQTopWordProblem19
import Derived.Test.YtnmklkjlcpgjmaaQTopWordProblem20
import Derived.Test.YtnmklkjlcpgjmaaQTopWordProblem21
import Derived.Test.YtnmklkjlcpgjmaaQTopWordProblem22
import Derived.Test.YtnmklkjlcpgjmaaQTopWordProblem23
import Derived.Test.YtnmklkjlcpgjmaaQTopWordProblem24
import Derived.Test.YtnmklkjlcpgjmaaQTopWordProblem25
import Derived.Test.YtnmklkjlcpgjmaaQTopWordProblem26
import Derived.Test.YtnmklkjlcpgjmaaQTopWordProblem27
import Derived.Test.YtnmklkjlcpgjmaaQTopWordProblem28
import Derived.Test.YtnmklkjlcpgjmaaQTopWordProblem29
import Derived.Test.YtnmklkjlcpgjmaaQTopWordProblem30
import Derived.Test.YtnmklkjlcpgjmaaQTopWordProblem31
import Derived.Test.YtnmklkjlcpgjmaaQTopWordProblem32
import Derived.Test.YtnmklkjlcpgjmaaQTopWordProblem34
import Derived.Test.YtnmklkjlcpgjmaaQTopWordProblem35
import Derived.Test.YtnmklkjlcpgjmaaQTopWordProblem36
import Derived.Test.YtnmklkjlcpgjmaaQTopWordProblem37
import Derived.Test.YtnmklkjlcpgjmaaQTopWordProblem38
import Derived.Test.YtnmklkjlcpgjmaaQTopWordProblem39
import Derived.Test.YtnmklkjlcpgjmaaQTopWordProblem40
import Derived.Test.YtnmklkjlcpgjmaaQTopWordProblem41
import Derived.Test.YtnmklkjlcpgjmaaQTopWordProblem42
import Derived.Test.YtnmklkjlcpgjmaaQTopWordProblem43
import Derived.Test.YtnmklkjlcpgjmaaQTopWordProblem44
import Derived.Test.YtnmklkjlcpgjmaaQTopWordProblem45

namespace Go.Proofs.Ytnmklkjlcpgjmaa
open Go.RowKit Go.Sl

def Sg (n : Nat) (xs : List Int) (s : Int) : Prop := ∃ ys, LtW n ys ∧ BE n ys xs ∧ ((ys = [] ∧ s = 0) ∨ ∃ k, 0 < k ∧ (s = 1 ∨ s = -1) ∧ SPos k s ys)
theorem SgnOf.sg {n : Nat} {xs : List Int} {s : Int} (h : SgnOf n xs s) : Sg n xs s := by
  obtain ⟨ys, _, a, b, c⟩ := h
  exact ⟨ys, a, b, c⟩
theorem Sg.mul {n : Nat} {xs ys : List Int} {s : Int} (h : Sg n xs s) (k : Sg n ys s) (h0 : s ≠ 0) : Sg n (xs ++ ys) s := by
  obtain ⟨u, lu, eu, hu⟩ := h
  obtain ⟨v, lv, ev, hv⟩ := k
  rcases hu with ⟨_, e⟩ | ⟨k, hk, hs, hm, z, hz, hzk⟩
  · exact absurd e h0
  rcases hv with ⟨_, e⟩ | ⟨k', hk', _, hm', z', hz', hzk'⟩
  · exact absurd e h0
  refine ⟨u ++ v, lu.app lv, (eu.post v).trans (ev.pre xs), .inr ?_⟩
  rcases Nat.le_total k k' with hkk | hkk
  · exact ⟨k, hk, hs, Mono.app hm (fun y hy => ⟨by have := (hm' y hy).1; omega, fun e => (hm' y hy).2 (by have := (hm' y hy).1; omega)⟩), z, by simp [hz], hzk⟩
  · exact ⟨k', hk', hs, Mono.app (fun y hy => ⟨by have := (hm y hy).1; omega, fun e => (hm y hy).2 (by have := (hm y hy).1; omega)⟩) hm', z', by simp [hz'], hzk'⟩
theorem inv_lt' {n : Nat} {xs : List Int} (h : LtW n xs) : LtW n (invL xs) := invB_lt h
end Go.Proofs.Ytnmklkjlcpgjmaa

namespace Go.Proofs.Ytnmklkjlcpgjmaa
open Go.RowKit Go.Sl

theorem BE.fold {n : Nat} {u v : List Int} (h : BE n u v) : ∀ {X : List (List Int)}, RdA X → X.length = n → u.reverse.foldl stepA X = v.reverse.foldl stepA X := by
  induction h with
  | refl u => exact fun _ _ => rfl
  | symm _ ih => exact fun h e => (ih h e).symm
  | trans _ _ ih1 ih2 => exact fun h e => (ih1 h e).trans (ih2 h e)
  | ctx a b _ ih =>
    intro X h e
    simp only [List.reverse_append, List.foldl_append]
    rw [ih (rdA_fold _ h) (by rw [foldA_len]; exact e)]
  | cancel hx =>
    rename_i x
    intro X h e
    have := step_inv h (c := -x) (by have := hx.1; omega) (by rw [Int.natAbs_neg, e]; exact hx.2)
    rw [Int.neg_neg] at this
    simpa using this
  | far hx hy hf =>
    intro X _ e
    have := far_step (X := X) hx.1 hy.1 (by rw [e]; exact hx.2) (by rw [e]; exact hy.2) (by omega)
    simpa using this.symm
  | braid h0 hi =>
    rename_i i
    intro X _ e
    obtain ⟨k, rfl⟩ : ∃ k, i = k + 1 := ⟨i - 1, by omega⟩
    have := braid_step (X := X) (i := k) (by omega)
    have e1 : ((k + 1 : Nat) : Int) = (k : Int) + 1 := by omega
    have e2 : ((k + 1 + 1 : Nat) : Int) = ((k + 1 : Nat) : Int) + 1 := by omega
    rw [e2, e1]
    rw [e1] at this
    simpa using this
/-- Words that are equal as braids have the same images. -/
theorem BE.images {n : Nat} {u v : List Int} (h : BE n u v) : imagesA n u = imagesA n v := h.fold (rdA_gens n) (gensA_length n)
theorem images_app (n : Nat) (u v : List Int) : imagesA n (u ++ v) = u.reverse.foldl stepA (imagesA n v) := by
  unfold imagesA
  rw [List.reverse_append, List.foldl_append]

theorem sbP_mem {a b m z : Int} (h0 : a ≠ 0) (h1 : b ≠ 0) (hm : m ≠ 0) (h : z ∈ sbP a b m) : z ≠ 0 := by
  unfold sbP at h
  split at h
  · simp at h; omega
  · split at h
    · simp at h; omega
    · split at h
      · simp at h; omega
      · split at h <;> (simp at h; omega)
theorem flat_nz {a b : Int} (h0 : a ≠ 0) (h1 : b ≠ 0) {u : List Int} (hu : ∀ x ∈ u, x ≠ 0) : ∀ z ∈ u.flatMap (sbP a b), z ≠ 0 := by
  intro z hz
  obtain ⟨m, hm, hz⟩ := List.mem_flatMap.1 hz
  exact sbP_mem h0 h1 (hu m hm) hz
/-- What the image of the generator k looks like: itself, or a word that ends with its inverse. -/
def EndK (k : Int) (u : List Int) : Prop := (∀ x ∈ u, x ≠ 0) ∧ NoInv u ∧ ∃ t, u = t ++ [-k]
theorem endK_keep {a b k : Int} (h0 : a ≠ 0) (h00 : b ≠ 0) (hab : a ≠ b) (hab2 : a ≠ -b) (hk : a = k ∨ (k ≠ a ∧ k ≠ -a ∧ k ≠ b ∧ k ≠ -b)) {u : List Int} (h : EndK k u) : EndK k (redL (u.flatMap (sbP a b))) := by
  obtain ⟨hz, hn, t, rfl⟩ := h
  have hz2 := flat_nz h0 h00 hz
  refine ⟨fun x hx => hz2 x (redL_mem hx), noInv_redL hz2, ?_⟩
  have := ends_keep h0 h00 hab hab2 hk hn
  unfold redL
  cases e : act [] ((t ++ [-k]).flatMap (sbP a b)) with
  | nil => rw [e] at this; cases this
  | cons y s =>
    rw [e] at this
    obtain rfl := Option.some.inj this
    exact ⟨s.reverse, by simp⟩
theorem endK_first {k : Nat} : EndK ((k : Int) + 1) (redL ([(k : Int) + 1].flatMap (sbP ((k : Int) + 1) ((k : Int) + 2)))) := by
  have e : [(k : Int) + 1].flatMap (sbP ((k : Int) + 1) ((k : Int) + 2)) = [(k : Int) + 1, (k : Int) + 2, -((k : Int) + 1)] := by
    simp only [List.flatMap_cons, List.flatMap_nil, List.append_nil]
    unfold sbP
    rw [if_pos rfl]
  rw [e, redL_of_rd (by simp [Rd]; omega)]
  refine ⟨?_, ?_, ⟨[(k : Int) + 1, (k : Int) + 2], by simp⟩⟩
  · intro x hx
    simp at hx
    omega
  · exact ⟨by omega, by omega, by omega, by omega, (show -((k : Int) + 1) ≠ 0 by omega)⟩
theorem flat_other {a b m : Int} (h1 : m ≠ a) (h2 : m ≠ -a) (h3 : m ≠ b) (h4 : m ≠ -b) : redL ([m].flatMap (sbP a b)) = [m] := by
  have e : [m].flatMap (sbP a b) = [m] := by
    simp only [List.flatMap_cons, List.flatMap_nil, List.append_nil]
    unfold sbP
    rw [if_neg h1, if_neg h2, if_neg h3, if_neg h4]
  rw [e, redL_one]
theorem image_mono {n k : Nat} (hk : k + 1 < n) : ∀ (w : List Int), LtW n w → Mono (k + 1) 1 w → (nthr (imagesA n w) k = [(k : Int) + 1] ∧ ∀ x ∈ w, x.natAbs ≠ k + 1) ∨ EndK ((k : Int) + 1) (nthr (imagesA n w) k) := by
  intro w
  obtain ⟨L, hL⟩ : ∃ L, L = w.length := ⟨_, rfl⟩
  induction L generalizing w with
  | zero =>
    obtain rfl := List.eq_nil_of_length_eq_zero hL.symm
    exact fun _ _ => .inl ⟨nthr_gens (by omega), fun x hx => by simp at hx⟩
  | succ L ih =>
    intro lw hm
    rcases snoc_cases w with rfl | ⟨u, x, rfl⟩
    · simp at hL
    have lu : LtW n u := fun z hz => lw z (by simp [hz])
    have hx := lw x (by simp)
    have hmx := hm x (by simp)
    have h := ih u (by simp at hL; omega) lu fun z hz => hm z (by simp [hz])
    obtain ⟨i, hi, rfl | rfl⟩ := letter_cases hx.1 hx.2
    · have e := images_snoc_pos hi (w := u) lu k (by omega)
      rw [e]
      have hik : k ≤ i := by have := hmx.1; omega
      rcases Nat.eq_or_lt_of_le hik with rfl | hlt
      · right
        rcases h with ⟨h1, _⟩ | h1
        · rw [h1]; exact endK_first
        · exact endK_keep (by omega) (by omega) (by omega) (by omega) (.inl rfl) h1
      · rcases h with ⟨h1, h2⟩ | h1
        · left
          rw [h1]
          refine ⟨flat_other (by omega) (by omega) (by omega) (by omega), fun z hz => ?_⟩
          rw [List.mem_append, List.mem_singleton] at hz
          rcases hz with hz | rfl
          · exact h2 z hz
          · omega
        · exact .inr (endK_keep (by omega) (by omega) (by omega) (by omega) (.inr ⟨by omega, by omega, by omega, by omega⟩) h1)
    · have e := images_snoc_neg hi (w := u) lu k (by omega)
      rw [e]
      have hik : k < i := by
        have h1 := hmx.1
        have h2 := hmx.2
        rcases Nat.lt_or_ge k i with h | h
        · exact h
        · have := h2 (by omega); omega
      rcases h with ⟨h1, h2⟩ | h1
      · left
        rw [h1]
        refine ⟨flat_other (by omega) (by omega) (by omega) (by omega), fun z hz => ?_⟩
        rw [List.mem_append, List.mem_singleton] at hz
        rcases hz with hz | rfl
        · exact h2 z hz
        · omega
      · exact .inr (endK_keep (by omega) (by omega) (by omega) (by omega) (.inr ⟨by omega, by omega, by omega, by omega⟩) h1)
theorem spos_moves {n k : Nat} (hk : 0 < k) {w : List Int} (lw : LtW n w) (h : SPos k 1 w) : imagesA n w ≠ gensA n := by
  obtain ⟨hm, z, hz, hzk⟩ := h
  intro e
  have hl := (lw z hz).2
  obtain ⟨k, rfl⟩ : ∃ j, k = j + 1 := ⟨k - 1, by omega⟩
  rcases image_mono (n := n) (k := k) (by omega) w lw hm with ⟨_, h2⟩ | ⟨_, _, t, h2⟩
  · exact h2 z hz hzk
  · rw [e, nthr_gens (by omega)] at h2
    have h3 := congrArg List.getLast? h2
    simp at h3
    omega
theorem sgn_images {n : Nat} {xs : List Int} {s : Int} (h : SgnOf n xs s) (e : imagesA n xs = gensA n) : s = 0 := by
  obtain ⟨u, _, lu, eu, hu⟩ := h
  have e1 : imagesA n u = gensA n := by rw [eu.images]; exact e
  rcases hu with ⟨_, h0⟩ | ⟨k, hk, hs, hsp⟩
  · exact h0
  · exfalso
    rcases hs with rfl | rfl
    · exact spos_moves hk lu hsp e1
    · have e2 : imagesA n (invB u) = gensA n := by
        have h1 : imagesA n (invB u ++ u) = gensA n := (BE.invMul lu).images
        rw [images_app, e1] at h1
        exact h1
      refine spos_moves (n := n) hk (invB_lt lu) ⟨fun y hy => ?_, ?_⟩ e2
      · unfold invB at hy
        rw [List.mem_reverse] at hy
        obtain ⟨x, hx, rfl⟩ := List.mem_map.1 hy
        rw [Int.natAbs_neg]
        have := hsp.1 x hx
        exact ⟨this.1, fun h => by have := this.2 h; omega⟩
      · obtain ⟨z, hz, hzk⟩ := hsp.2
        exact ⟨-z, by unfold invB; simp [hz], by rw [Int.natAbs_neg]; exact hzk⟩
/-- The three ways agree. -/
theorem three_ways {n : Nat} (h2 : 2 ≤ n) (h6 : n ≤ 6) {xs ys : List Int} (hx : LtW n xs) (hy : LtW n ys) {s : Int} (k : SgnOf n (invL xs ++ ys) s) {c d : St} (hc : Cn n (mulW n (0, []) xs) c) (hd : Cn n (mulW n (0, []) ys) d) :
    (imagesA n xs = imagesA n ys ↔ BE n xs ys) ∧ (c = d ↔ BE n xs ys) ∧ (s = 0 ↔ BE n xs ys) := by
  have e1 : BE n (invL xs ++ xs) [] := BE.invMul hx
  have e2 : BE n (xs ++ invL xs) [] := BE.mulInv hx
  have hb : s = 0 → BE n xs ys := by
    rintro rfl
    obtain ⟨u, _, lu, eu, hu⟩ := k
    rcases hu with ⟨rfl, _⟩ | ⟨k, _, hs, _⟩
    · have h3 := eu.pre xs
      have h4 := e2.post ys
      simp only [List.append_assoc, List.append_nil, List.nil_append] at h3 h4
      exact h3.trans h4
    · rcases hs with h | h <;> exact absurd h (by decide)
  have hb' : BE n xs ys → s = 0 := fun h => by
    refine sgn_images k ?_
    exact ((h.symm.pre (invL xs)).trans e1).images
  refine ⟨⟨fun h => hb (sgn_images k ?_), BE.images⟩, ⟨?_, ?_⟩, ⟨hb, hb'⟩⟩
  · rw [images_app, ← h, ← images_app]
    exact e1.images
  · rintro rfl
    exact BE.of_eqv (by omega) hx hy ((cn_eqv (by omega) h2 hc).trans (cn_eqv (by omega) h2 hd).symm)
  · intro h
    have h3 : Eqv n (mulW n (0, []) xs) (mulW n (0, []) ys) := h.eqv (by omega) hx (good_nil n)
    exact cn_unique ((eqv_cn (by omega) h2 h3 c).1 hc) hd
end Go.Proofs.Ytnmklkjlcpgjmaa

namespace Go.Proofs.Ytnmklkjlcpgjmaa
open Go.RowKit Go.Sl

def fullT : List Int := [1, 2, 1, 1, 2, 1]
theorem lt3 {x : Int} (h : x = 1 ∨ x = 2 ∨ x = -1 ∨ x = -2) : LtB 3 x := by unfold LtB; omega
theorem fullT_lt : LtW 3 fullT := fun x hx => lt3 (by simp [fullT] at hx; omega)
theorem twist_a : BE 3 [1, 2, 1, 1] [2, 1, 2, 1] := by
  have h : BE 3 [1, 2, 1] [2, 1, 2] := BE.braid (n := 3) (i := 1) (by decide) (by decide)
  exact h.post [1]
theorem twist_b : BE 3 [1, 2, 1, 2] [1, 1, 2, 1] := by
  have h : BE 3 [1, 2, 1] [2, 1, 2] := BE.braid (n := 3) (i := 1) (by decide) (by decide)
  exact h.symm.pre [1]
theorem full_a : BE 3 (fullT ++ [1]) ([1] ++ fullT) := (twist_a.pre [1, 2, 1]).trans (twist_b.post [1, 2, 1])
theorem full_b : BE 3 (fullT ++ [2]) ([2] ++ fullT) := (twist_b.pre [1, 2, 1]).trans (twist_a.post [1, 2, 1])
theorem full_neg {x : Int} (hx : LtB 3 x) (h : BE 3 (fullT ++ [x]) ([x] ++ fullT)) : BE 3 (fullT ++ [-x]) ([-x] ++ fullT) := by
  have h1 := BE.ctx [-x] [-x] h
  have hm : LtB 3 (-x) := ⟨by have := hx.1; omega, by rw [Int.natAbs_neg]; exact hx.2⟩
  have h2 : BE 3 ([-x] ++ fullT ++ [x, -x]) ([-x] ++ fullT ++ []) := (BE.cancel hx).pre _
  have h3 : BE 3 ([-x, - -x] ++ (fullT ++ [-x])) ([] ++ (fullT ++ [-x])) := (BE.cancel hm).post _
  rw [Int.neg_neg] at h3
  simp only [List.append_assoc, List.append_nil, List.nil_append, List.cons_append] at h1 h2 h3 ⊢
  exact (h3.symm.trans h1.symm).trans h2
theorem full_letter {x : Int} (hx : LtB 3 x) : BE 3 (fullT ++ [x]) ([x] ++ fullT) := by
  have h1 := hx.1
  have h2 := hx.2
  rcases (show x = 1 ∨ x = 2 ∨ x = -1 ∨ x = -2 by omega) with rfl | rfl | rfl | rfl
  · exact full_a
  · exact full_b
  · exact full_neg (lt3 (by omega)) full_a
  · exact full_neg (lt3 (by omega)) full_b
theorem full_word : ∀ {u : List Int}, LtW 3 u → BE 3 (fullT ++ u) (u ++ fullT) := by
  intro u
  induction u with
  | nil => intro _; rw [List.append_nil]; exact .refl _
  | cons x u ih =>
    intro h
    have h1 := (full_letter (h x (by simp))).post u
    have h2 := (ih fun y hy => h y (by simp [hy])).pre [x]
    simp only [List.append_assoc, List.cons_append, List.nil_append] at h1 h2 ⊢
    exact h1.trans h2
/-- w full w^-1 v is full v. -/
theorem full_conj {w : List Int} (hw : LtW 3 w) (v : List Int) : BE 3 (w ++ (fullT ++ (invB w ++ v))) (fullT ++ v) := by
  have h1 := (full_word hw).symm.post (invB w ++ v)
  have h2 := ((BE.mulInv hw).pre fullT).post v
  simp only [List.append_assoc, List.append_nil] at h1 h2 ⊢
  exact h1.trans h2
/-- What is put in for a letter. -/
def putA (Y : List (List Int)) (m : Int) : List Int := if m = 0 then [] else if 0 < m then nthr Y (m.natAbs - 1) else invL (nthr Y (m.natAbs - 1))
theorem putA_neg (Y : List (List Int)) (m : Int) : putA Y (-m) = invL (putA Y m) := by
  unfold putA
  by_cases h0 : m = 0
  · subst h0; rfl
  rw [if_neg (by omega), if_neg h0, Int.natAbs_neg]
  by_cases h1 : 0 < m
  · rw [if_neg (by omega), if_pos h1]
  · rw [if_pos (by omega), if_neg h1, invL_invL]
theorem putA_len {Y : List (List Int)} {L : Nat} (h : ∀ j, (nthr Y j).length ≤ L) (m : Int) : (putA Y m).length ≤ L := by
  unfold putA
  split
  · simp
  · split
    · exact h _
    · unfold invL; simpa using h _
theorem flat_len {f : Int → List Int} {L : Nat} (h : ∀ m, (f m).length ≤ L) (u : List Int) : (u.flatMap f).length ≤ u.length * L := by
  induction u with
  | nil => simp
  | cons x u ih =>
    have := h x
    simp only [List.flatMap_cons, List.length_append, List.length_cons, Nat.add_mul, Nat.one_mul]
    omega
theorem images_len {n L K : Nat} {f v : List Int} (hf : ∀ x ∈ f, x ≠ 0 ∧ x.natAbs < n) (h : ∀ j, (nthr (imagesA n v) j).length ≤ L) (hk : ∀ j, j < n → (nthr (imagesA n f) j).length ≤ K) : ∀ r ∈ imagesA n (f ++ v), r.length ≤ K * L := by
  intro r hr
  obtain ⟨j, hj, rfl⟩ := List.getElem_of_mem hr
  have hjn : j < n := by rw [imagesA_len] at hj; exact hj
  have h1 := fold_subst (putA_neg (imagesA n v)) f.reverse (X := gensA n) (Y := imagesA n v) (by rw [gensA_length, imagesA_len]) (fun x hx => by rw [gensA_length]; exact hf x (by simpa using hx)) (fun i hi => by
    rw [gensA_length] at hi
    rw [nthr_gens hi]
    have e : [(i : Int) + 1].flatMap (putA (imagesA n v)) = nthr (imagesA n v) i := by
      simp only [List.flatMap_cons, List.flatMap_nil, List.append_nil]
      unfold putA
      rw [if_neg (by omega), if_pos (by omega), show ((i : Int) + 1).natAbs - 1 = i by omega]
    rw [e]
    exact (redL_of_rd (rdA_fold _ (rdA_gens n) i)).symm) j (by rw [gensA_length]; exact hjn)
  have h2 : nthr (imagesA n (f ++ v)) j = redL ((nthr (imagesA n f) j).flatMap (putA (imagesA n v))) := by rw [images_app]; exact h1
  rw [nthr_lt hj] at h2
  rw [h2]
  refine Nat.le_trans (redL_length _) (Nat.le_trans (flat_len (putA_len h) _) ?_)
  exact Nat.mul_le_mul_right _ (hk j hjn)
theorem short_len {n : Nat} {v : List Int} (hv : v.length ≤ 5) (j : Nat) : (nthr (imagesA n v) j).length ≤ 243 := by
  by_cases hj : j < n
  · have h1 := fold_len v.reverse (gensA n) 1 (fun r hr => by
      obtain ⟨i, _, rfl⟩ := List.mem_map.1 hr
      simp) (nthr (imagesA n v) j) (by
      have : nthr (imagesA n v) j ∈ imagesA n v := nthr_mem (by rw [imagesA_len]; exact hj)
      exact this)
    have h3 : 3 ^ v.reverse.length ≤ 3 ^ 5 := Nat.pow_le_pow_right (by omega) (by simpa using hv)
    omega
  · rw [nthr_over (by rw [imagesA_len]; omega)]; simp
theorem full_part {f g : List Int} (h : fullT = g ++ f) : (∀ x ∈ f, x ≠ 0 ∧ x.natAbs < 3) ∧ ∀ j, j < 3 → (nthr (imagesA 3 f) j).length ≤ 9 := by
  have key : ∀ k, k ≤ 6 → (∀ x ∈ fullT.drop k, x ≠ 0 ∧ x.natAbs < 3) ∧ ∀ j, j < 3 → (nthr (imagesA 3 (fullT.drop k)) j).length ≤ 9 := by decide
  have e : f = fullT.drop g.length := by rw [h]; simp
  rw [e]
  refine key _ ?_
  have := congrArg List.length h
  simp [fullT] at this
  omega
theorem tooLong_iff {n : Nat} {xs : List Int} (h : TooLong n xs) : ∃ p s, xs = p ++ s ∧ ∃ r ∈ imagesA n s, 3000 < r.length := by
  obtain ⟨j, hj, r, hr, hl⟩ := h
  refine ⟨xs.take (xs.length - j), xs.drop (xs.length - j), (List.take_append_drop _ _).symm, r, ?_, hl⟩
  unfold imagesA
  have e : (xs.drop (xs.length - j)).reverse = xs.reverse.take j := by
    rw [List.reverse_drop]
    congr 1
    omega
  rw [e]
  exact hr
theorem app_split {a b p s : List Int} (h : a ++ b = p ++ s) : (∃ u, a = p ++ u ∧ s = u ++ b) ∨ ∃ u, b = u ++ s := by
  rcases List.append_eq_append_iff.1 h with ⟨u, e1, e2⟩ | ⟨u, e1, e2⟩
  · exact .inr ⟨u, e2⟩
  · exact .inl ⟨u, e1, e2⟩
/-- No image on the way is too long. -/
theorem full_short {w v : List Int} (hw : LtW 3 w) (hwl : w.length ≤ 4) (hv : v.length ≤ 1) : ¬ TooLong 3 (w ++ (fullT ++ (invB w ++ v))) := by
  intro h
  obtain ⟨p, s, e, r, hr, hl⟩ := tooLong_iff h
  have il : ∀ u : List Int, (invB u).length = u.length := fun u => by simp [invB]
  have key : ∀ (g f v : List Int), fullT = g ++ f → v.length ≤ 5 → ∀ r ∈ imagesA 3 (f ++ v), r.length ≤ 9 * 243 := fun g f v h1 h2 => images_len (full_part h1).1 (short_len h2) (full_part h1).2
  rcases app_split e with ⟨w2, e1, rfl⟩ | ⟨w2, e1⟩
  · -- the part begins within w
    have l2 : LtW 3 w2 := fun x hx => hw x (by rw [e1]; simp [hx])
    have e2 : invB w = invB w2 ++ invB p := by rw [e1, invB_append]
    have h1 := full_conj l2 (invB p ++ v)
    rw [e2, List.append_assoc, h1.images] at hr
    have h2 := key [] fullT (invB p ++ v) rfl (by
      have := congrArg List.length e1
      rw [List.length_append] at this ⊢
      rw [il]; omega) r hr
    omega
  · rcases app_split e1 with ⟨f, e3, rfl⟩ | ⟨f, e3⟩
    · have h2 := key _ f (invB w ++ v) e3 (by rw [List.length_append, il]; omega) r hr
      omega
    · have h2 := key fullT [] s (by simp) (by
        have := congrArg List.length e3
        rw [List.length_append, List.length_append, il] at this
        omega) r hr
      omega
theorem full_short' : ¬ TooLong 3 fullT := by
  have := full_short (w := []) (v := []) (fun x hx => by simp at hx) (by simp) (by simp)
  simpa [invB] using this
/-- A letter more is another braid. -/
theorem full_more {w : List Int} {x : Int} (hx : LtB 3 x) (hw : LtW 3 w) : ¬ BE 3 (w ++ (fullT ++ (invB w ++ [x]))) fullT := fun h => by
  have h1 : BE 3 (fullT ++ [x]) (fullT ++ []) := by rw [List.append_nil]; exact (full_conj hw [x]).symm.trans h
  have h2 := (h1.cancelL fullT_lt).ex
  have := hx.1
  unfold exB at h2
  simp at h2
  exact this h2
theorem full_same {w : List Int} (hw : LtW 3 w) : BE 3 (w ++ (fullT ++ invB w)) fullT := by
  have := full_conj hw []
  simpa using this
end Go.Proofs.Ytnmklkjlcpgjmaa


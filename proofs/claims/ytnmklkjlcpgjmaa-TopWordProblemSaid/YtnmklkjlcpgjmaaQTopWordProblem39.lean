/- The half twist walked; what passes over the factors come to. -/
import Derived.Test.YtnmklkjlcpgjmaaQTopWordProblem0
import Derived.Test.YtnmklkjlcpgjmaaQTopWordProblem1
import Derived.Test.YtnmklkjlcpgjmaaQTopWordProblem3
import Derived.Test.YtnmklkjlcpgjmaaQTopWordProblem5
import Derived.Test.YtnmklkjlcpgjmaaQTopWordProblem6
import Derived.Test.YtnmklkjlcpgjmaaQTopWordProblem7
import Derived.Test.YtnmklkjlcpgjmaaQTopWordProblem8
import Derived.Test.YtnmklkjlcpgjmaaQTopWordProblem9
import Derived.Test.YtnmklkjlcpgjmaaQTopWordProblem10
import Derived.Test.YtnmklkjlcpgjmaaQTopWordProblem11
import Derived.Test.YtnmklkjlcpgjmaaQTopWordProblem12
import Derived.Test.YtnmklkjlcpgjmaaQTopWordProblem13
import Derived.Test.YtnmklkjlcpgjmaaQTopWordProblem15
import Derived.Test.YtnmklkjlcpgjmaaQTopWordProblem16
import Derived.Test.YtnmklkjlcpgjmaaQTopWordProblem17
import Derived.Test.YtnmklkjlcpgjmaaQTopWordProblem18
import Derived.Test.YtnmklkjlcpgjmaaQTopWordProblem19
import Derived.Test.YtnmklkjlcpgjmaaQTopWordProblem20
import Derived.Test.YtnmklkjlcpgjmaaQTopWordProblem29
import Derived.Test.YtnmklkjlcpgjmaaQTopWordProblem31
import Derived.Test.YtnmklkjlcpgjmaaQTopWordProblem32
import Derived.Test.YtnmklkjlcpgjmaaQTopWordProblem34
import Derived.Test.YtnmklkjlcpgjmaaQTopWordProblem35
import Derived.Test.YtnmklkjlcpgjmaaQTopWordProblem36
import Derived.Test.YtnmklkjlcpgjmaaQTopWordProblem37
import Derived.Test.YtnmklkjlcpgjmaaQTopWordProblem38

namespace Go.Proofs.Ytnmklkjlcpgjmaa
open Go.RowKit Go.Sl

set_option maxRecDepth 100000 in
theorem half_calls (n : Nat) (w : World) (hn : n ≤ 1000) :
    Calls Try.prog 44 #[.int .i64 n] w fun e w' => ∃ v, e = .returned v ∧ OwnI w' w.heap.size v (hf n) ∧ Below w.heap.size w w' := by
  go_enter Try.func44, Try.ntmps44
  go_wp2_with fail
  refine (identity_calls n w hn).mono ?_
  rintro e w1 ⟨v, rfl, hv, hb⟩
  have sv := hv.isSl
  have HV := Lib.hid hv; have HB := Lib.hid hb
  clear hv hb
  go_wp2_with fail
  refine (reverse_calls v (iota n) _ _ HV.out (by simp [iota]; omega)).mono ?_
  rintro e w2 ⟨⟨u, rfl⟩, hv2, hb2⟩
  have HV2 := Lib.hid hv2; have HB2 := Lib.hid hb2
  clear hv2 hb2
  go_wp2_with fail
  go_ret
  exact ⟨_, rfl, HV2.out, HB.out.trans HB2.out⟩

theorem reach_mu {n : Nat} {F G : List (List Int)} (h : Reach n F G) : Good n F → G = F ∨ mu G < mu F := by
  induction h with
  | refl => exact fun _ => .inl rfl
  | head h _ ih =>
    intro g
    have h1 := h.mu g
    rcases ih (h.good g) with e | e
    · rw [e]; right; omega
    · right; omega
theorem reach_set {n : Nat} : ∀ (F : List (List Int)) (j : Nat) {a b : List Int}, j + 1 < F.length → Reach n [nthr F j, nthr F (j + 1)] [a, b] → Reach n F ((F.set j a).set (j + 1) b)
  | x :: y :: Q, 0, a, b, _, h => by
    have := h.post Q
    simpa [nthr] using this
  | x :: F, j + 1, a, b, hj, h => by
    have := (reach_set F j (a := a) (b := b) (by simpa using hj) (by simpa [nthr] using h)).cons x
    simpa using this
theorem tight_pairs {n : Nat} {F : List (List Int)} (h : ∀ j, j + 1 < F.length → ∀ i, i + 1 < n → dn (nthr F (j + 1)) i → ¬ up (nthr F j) i) : Tight n F := by
  intro G s
  induction s with
  | here post hi hu hd => exact h 0 (by simp) _ hi (by simpa [nthr] using hd) (by simpa [nthr] using hu)
  | next x hs ih => exact ih fun j hj i hi hd hu => h (j + 1) (by simpa using hj) i hi (by simpa [nthr] using hd) (by simpa [nthr] using hu)
theorem set_same {F : List (List Int)} {j : Nat} (h : j < F.length) : F.set j (nthr F j) = F := by
  rw [nthr_lt h]; exact List.set_getElem_self h
/-- What the rows read as. -/
noncomputable def readF (w : World) (vs : List Value) (n : Nat) : List (List Int) := vs.map fun q => readI w q n
theorem readF_of {w : World} {B n : Nat} {v : Value} {vs : List Value} {F : List (List Int)} (h : RG w B v vs F) (g : Good n F) : readF w vs n = F := by
  have hl := h.len
  refine List.ext_getElem (by simp [readF, hl]) fun j h1 h2 => ?_
  have h3 := readI_of (h.row j h2).ints
  have h4 : (nthr F j).length = n := by rw [nthr_lt h2]; exact (g _ (List.getElem_mem h2)).len
  rw [h4, nthr_lt h2] at h3
  rw [← h3]
  simp [readF, nthv, hl, h2]
theorem tight_two {n : Nat} {xs ys : List Int} (h : ∀ i, i + 1 < n → dn ys i → ¬ up xs i) : Tight n [xs, ys] :=
  tight_pairs fun j hj i hi => by
    have : j = 0 := by simp at hj; omega
    subst this
    simpa [nthr] using h i hi
theorem reach_tight {n : Nat} {F G : List (List Int)} (h : Reach n F G) (t : Tight n F) : G = F := by
  cases h with
  | refl => rfl
  | head h _ => exact absurd h (t _)
theorem tighten_no (n : Nat) (a b : Value) (xs ys : List Int) (B : Nat) (w : World) (ha : OwnI w B a xs) (hb : OwnI w B b ys) (hx : Pn n xs) (hy : Pn n ys) (h2 : 2 ≤ n) (h6 : n ≤ 6) (hne : vblk a ≠ vblk b) (ht : ∀ i, i + 1 < n → dn ys i → ¬ up xs i) :
    Calls Try.prog 49 #[a, b] w fun e w' => e = .returned (.bool false) ∧ OwnI w' B a xs ∧ OwnI w' B b ys ∧ Chd w w' (fun k => k = vblk a ∨ k = vblk b) := by
  refine (tighten_calls n a b xs ys B w ha hb hx hy h2 h6 hne).mono ?_
  rintro e w' ⟨m, xs', ys', rfl, ha', hb', hr, _, hm0, hm1, hc⟩
  have e1 := reach_tight hr (tight_two ht)
  obtain ⟨rfl, e2⟩ := List.cons.inj e1
  obtain ⟨rfl, _⟩ := List.cons.inj e2
  cases m with
  | false => exact ⟨rfl, ha', hb', hc⟩
  | true => exact absurd (hm1 rfl) (Nat.lt_irrefl _)
theorem tighten_yes (n : Nat) (a b : Value) (xs ys : List Int) (B : Nat) (w : World) (ha : OwnI w B a xs) (hb : OwnI w B b ys) (hx : Pn n xs) (hy : Pn n ys) (h2 : 2 ≤ n) (h6 : n ≤ 6) (hne : vblk a ≠ vblk b) (ht : ¬ ∀ i, i + 1 < n → dn ys i → ¬ up xs i) :
    Calls Try.prog 49 #[a, b] w fun e w' => e = .returned (.bool true) ∧ ∃ xs' ys', OwnI w' B a xs' ∧ OwnI w' B b ys' ∧ Reach n [xs, ys] [xs', ys'] ∧ inv ys' < inv ys ∧ Chd w w' (fun k => k = vblk a ∨ k = vblk b) := by
  refine (tighten_calls n a b xs ys B w ha hb hx hy h2 h6 hne).mono ?_
  rintro e w' ⟨m, xs', ys', rfl, ha', hb', hr, h3, hm0, hm1, hc⟩
  cases m with
  | false =>
    obtain ⟨rfl, rfl⟩ := hm0 rfl
    exact absurd h3 ht
  | true => exact ⟨rfl, xs', ys', ha', hb', hr, hm1 rfl, hc⟩
def boolN : Value → Nat
  | .bool true => 1
  | _ => 0
theorem Tight.suffix {n : Nat} : ∀ (P : List (List Int)) {Q : List (List Int)}, Tight n (P ++ Q) → Tight n Q
  | [], _, h => h
  | _ :: P, _, h => Tight.suffix P h.tl
theorem strip_tight {n : Nat} (_h2 : 2 ≤ n) (hn : n ≤ 1000) {k : Nat} {G2 : List (List Int)} (p : Int) (g : Good n (List.replicate k (hf n) ++ G2)) (t : Tight n (List.replicate k (hf n) ++ G2)) (hh : ∀ a T, G2 = a :: T → a ≠ hf n) :
    ∃ U m, G2 = U ++ List.replicate m (iota n) ∧ iota n ∉ U ∧ strip n p (List.replicate k (hf n) ++ G2) = (p + k, U) := by
  have t2 := t.suffix
  have g2 : Good n G2 := fun x hx => g x (by simp [hx])
  have hno : hf n ∉ G2 := by
    cases G2 with
    | nil => simp
    | cons a T =>
      intro hm
      rcases List.mem_cons.1 hm with e | e
      · exact hh a T rfl e.symm
      · exact tight_lead hn g2 t2 (hh a T rfl) e
  obtain ⟨U, m, rfl, hU⟩ := tight_ones hn G2 g2 t2
  refine ⟨U, m, rfl, hU, ?_⟩
  have hn1 : hf n ∉ U := fun h => hno (List.mem_append_left _ h)
  have c0 : (U ++ List.replicate m (iota n)).count (hf n) = 0 := List.count_eq_zero.2 hno
  have hfi : U.filter (fun p => decide (p ≠ hf n ∧ p ≠ iota n)) = U := List.filter_eq_self.2 fun x hx => by
    simp only [decide_eq_true_eq]
    exact ⟨fun e => hn1 (e ▸ hx), fun e => hU (e ▸ hx)⟩
  have hfh : (List.replicate k (hf n)).filter (fun p => decide (p ≠ hf n ∧ p ≠ iota n)) = [] := List.filter_eq_nil_iff.2 fun x hx => by
    rw [List.eq_of_mem_replicate hx]; simp
  have hfo : (List.replicate m (iota n)).filter (fun p => decide (p ≠ hf n ∧ p ≠ iota n)) = [] := List.filter_eq_nil_iff.2 fun x hx => by
    rw [List.eq_of_mem_replicate hx]; simp
  unfold strip
  rw [List.count_append, c0, List.count_replicate_self, List.filter_append, List.filter_append, hfi, hfh, hfo]
  simp

end Go.Proofs.Ytnmklkjlcpgjmaa


/- Sequences of permutations: crossings moved from a factor to the one before it. There is one end alone. No program. -/
import Derived.Test.YtnkahkahcajahaaGarPerm
namespace Go.Proofs.Ytnkahkahcajahaa
open Go.RowKit Go.Sl

/-- A crossing of a factor is moved to the end of the factor before it. -/
inductive Step (n : Nat) : List (List Int) → List (List Int) → Prop
  | here {a b : List Int} {i : Nat} (post : List (List Int)) (hi : i + 1 < n) (hu : up a i) (hd : dn b i) : Step n (a :: b :: post) (swapV a i :: swapAt b i :: post)
  | next (x : List Int) {F G : List (List Int)} (h : Step n F G) : Step n (x :: F) (x :: G)
inductive Reach (n : Nat) : List (List Int) → List (List Int) → Prop
  | refl (F : List (List Int)) : Reach n F F
  | head {F G H : List (List Int)} (h : Step n F G) (k : Reach n G H) : Reach n F H
def Good (n : Nat) (F : List (List Int)) : Prop := ∀ a ∈ F, Pn n a
def Tight (n : Nat) (F : List (List Int)) : Prop := ∀ G, ¬ Step n F G

theorem Good.cons {n : Nat} {a : List Int} {F : List (List Int)} (h : Pn n a) (k : Good n F) : Good n (a :: F) := fun x hx => by
  rcases List.mem_cons.1 hx with rfl | hx
  · exact h
  · exact k x hx
theorem Good.hd {n : Nat} {a : List Int} {F : List (List Int)} (h : Good n (a :: F)) : Pn n a := h a (by simp)
theorem Good.tl {n : Nat} {a : List Int} {F : List (List Int)} (h : Good n (a :: F)) : Good n F := fun x hx => h x (by simp [hx])
theorem Good.app {n : Nat} {F G : List (List Int)} (h : Good n F) (k : Good n G) : Good n (F ++ G) := fun x hx => (List.mem_append.1 hx).elim (h x) (k x)
theorem good_nil (n : Nat) : Good n [] := fun _ h => by cases h
theorem Step.good {n : Nat} {F G : List (List Int)} (h : Step n F G) : Good n F → Good n G := by
  induction h with
  | here post hi hu hd => exact fun g => (g.hd.swapV hi).1 |> fun _ => Good.cons (g.hd.swapV hi) (Good.cons (g.tl.hd.swapAt hi) g.tl.tl)
  | next x h ih => exact fun g => Good.cons g.hd (ih g.tl)
theorem Step.len {n : Nat} {F G : List (List Int)} (h : Step n F G) : G.length = F.length := by
  induction h with
  | here => rfl
  | next x h ih => simp [ih]
def tot : List (List Int) → Nat
  | [] => 0
  | a :: F => inv a + tot F
def mu : List (List Int) → Nat
  | [] => 0
  | _ :: F => mu F + tot F
theorem Step.tot {n : Nat} {F G : List (List Int)} (h : Step n F G) : Good n F → Go.Proofs.Ytnkahkahcajahaa.tot G = Go.Proofs.Ytnkahkahcajahaa.tot F := by
  induction h with
  | here post hi hu hd =>
    intro g
    have h1 := inv_up g.hd hi hu
    have h2 := inv_dn g.tl.hd hi hd
    simp only [Go.Proofs.Ytnkahkahcajahaa.tot]; omega
  | next x h ih => intro g; simp only [Go.Proofs.Ytnkahkahcajahaa.tot, ih g.tl]
theorem Step.mu {n : Nat} {F G : List (List Int)} (h : Step n F G) : Good n F → Go.Proofs.Ytnkahkahcajahaa.mu G + 1 = Go.Proofs.Ytnkahkahcajahaa.mu F := by
  induction h with
  | here post hi hu hd =>
    intro g
    have h2 := inv_dn g.tl.hd hi hd
    simp only [Go.Proofs.Ytnkahkahcajahaa.mu, Go.Proofs.Ytnkahkahcajahaa.tot]; omega
  | next x h ih =>
    intro g
    have h1 := ih g.tl
    have h2 := h.tot g.tl
    simp only [Go.Proofs.Ytnkahkahcajahaa.mu]; omega
theorem Reach.trans {n : Nat} {F G H : List (List Int)} (h : Reach n F G) (k : Reach n G H) : Reach n F H := by
  induction h with
  | refl => exact k
  | head h _ ih => exact .head h (ih k)
theorem Reach.one {n : Nat} {F G : List (List Int)} (h : Step n F G) : Reach n F G := .head h (.refl _)
theorem Reach.good {n : Nat} {F G : List (List Int)} (h : Reach n F G) : Good n F → Good n G := by
  induction h with
  | refl => exact id
  | head h _ ih => exact fun g => ih (h.good g)
theorem Reach.len {n : Nat} {F G : List (List Int)} (h : Reach n F G) : G.length = F.length := by
  induction h with
  | refl => rfl
  | head h _ ih => rw [ih, h.len]
theorem Reach.tot {n : Nat} {F G : List (List Int)} (h : Reach n F G) : Good n F → Go.Proofs.Ytnkahkahcajahaa.tot G = Go.Proofs.Ytnkahkahcajahaa.tot F := by
  induction h with
  | refl => exact fun _ => rfl
  | head h _ ih => exact fun g => (ih (h.good g)).trans (h.tot g)
theorem Reach.cons {n : Nat} (x : List Int) {F G : List (List Int)} (h : Reach n F G) : Reach n (x :: F) (x :: G) := by
  induction h with
  | refl => exact .refl _
  | head h _ ih => exact .head (.next x h) ih
theorem Reach.pre {n : Nat} (P : List (List Int)) {F G : List (List Int)} (h : Reach n F G) : Reach n (P ++ F) (P ++ G) := by
  induction P with
  | nil => exact h
  | cons x P ih => exact ih.cons x
theorem Step.post {n : Nat} {F G : List (List Int)} (h : Step n F G) (Q : List (List Int)) : Step n (F ++ Q) (G ++ Q) := by
  induction h with
  | here post hi hu hd => exact .here (post ++ Q) hi hu hd
  | next x h ih => exact .next x ih
theorem Reach.post {n : Nat} {F G : List (List Int)} (h : Reach n F G) (Q : List (List Int)) : Reach n (F ++ Q) (G ++ Q) := by
  induction h with
  | refl => exact .refl _
  | head h _ ih => exact .head (h.post Q) ih
theorem exists_tight {n : Nat} : ∀ m F, mu F ≤ m → Good n F → ∃ T, Reach n F T ∧ Tight n T := by
  intro m
  induction m with
  | zero =>
    intro F h g
    exact ⟨F, .refl _, fun G hs => by have := hs.mu g; omega⟩
  | succ m ih =>
    intro F h g
    by_cases ht : Tight n F
    · exact ⟨F, .refl _, ht⟩
    · obtain ⟨G, hG⟩ := Classical.not_forall.1 ht
      have hs := Classical.not_not.1 hG
      obtain ⟨T, h1, h2⟩ := ih G (by have := hs.mu g; omega) (hs.good g)
      exact ⟨T, .head hs h1, h2⟩

/-! Local confluence. -/
section
variable {n : Nat} {a b d : List Int} {i j : Nat}
theorem swapV_far (h : i + 1 < j ∨ j + 1 < i) : swapV (swapV a i) j = swapV (swapV a j) i := by
  unfold swapV
  rw [List.map_map, List.map_map]
  refine List.map_congr_left fun x _ => ?_
  show swV j (swV i x) = swV i (swV j x)
  unfold swV; grind
theorem swapAt_far (hb : Pn n b) (hi : i + 1 < n) (hj : j + 1 < n) (h : i + 1 < j ∨ j + 1 < i) : swapAt (swapAt b i) j = swapAt (swapAt b j) i := by
  refine ext_nth (by simp [swapAt_length]) fun q _ => ?_
  rw [nth_swapAt' _ _ _ (by rw [swapAt_length, hb.len]; exact hj), nth_swapAt' _ _ _ (by rw [hb.len]; exact hi), nth_swapAt' _ _ _ (by rw [swapAt_length, hb.len]; exact hi), nth_swapAt' _ _ _ (by rw [hb.len]; exact hj)]
  congr 1
  unfold swN; grind
theorem nsw (hb : Pn n b) (hi : i + 1 < n) (q : Nat) : nth (swapAt b i) q = nth b (swN i q) := nth_swapAt' b i q (by rw [hb.len]; exact hi)
theorem dn_far (hb : Pn n b) (hi : i + 1 < n) (h : i + 1 < j ∨ j + 1 < i) : dn (swapAt b i) j ↔ dn b j := by
  unfold dn
  rw [nsw hb hi, nsw hb hi]
  have e1 : swN i j = j := by unfold swN; grind
  have e2 : swN i (j + 1) = j + 1 := by unfold swN; grind
  rw [e1, e2]
theorem up_far (ha : Pn n a) (hi : i + 1 < n) (h : i + 1 < j ∨ j + 1 < i) : up (swapV a i) j ↔ up a j := by
  unfold up
  rw [back_swapV ha hi, nsw ha.back hi, nsw ha.back hi]
  have e1 : swN i j = j := by unfold swN; grind
  have e2 : swN i (j + 1) = j + 1 := by unfold swN; grind
  rw [e1, e2]
theorem swapV_braid : swapV (swapV (swapV a i) (i + 1)) i = swapV (swapV (swapV a (i + 1)) i) (i + 1) := by
  unfold swapV
  rw [List.map_map, List.map_map, List.map_map, List.map_map]
  refine List.map_congr_left fun x _ => ?_
  show swV i (swV (i + 1) (swV i x)) = swV (i + 1) (swV i (swV (i + 1) x))
  unfold swV; grind
theorem swapAt_braid (hb : Pn n b) (hj : i + 1 + 1 < n) : swapAt (swapAt (swapAt b i) (i + 1)) i = swapAt (swapAt (swapAt b (i + 1)) i) (i + 1) := by
  have hi : i + 1 < n := by omega
  refine ext_nth (by simp [swapAt_length]) fun q _ => ?_
  rw [nsw ((hb.swapAt hi).swapAt hj) hi, nsw (hb.swapAt hi) hj, nsw hb hi, nsw ((hb.swapAt hj).swapAt hi) hj, nsw (hb.swapAt hj) hi, nsw hb hj]
  congr 1
  unfold swN; grind
/-- Two neighbouring crossings: what else can be moved behind the first. -/
theorem dn_next (hb : Pn n b) (hj : i + 1 + 1 < n) (h1 : dn b i) (h2 : dn b (i + 1)) : dn (swapAt b i) (i + 1) ∧ dn (swapAt (swapAt b i) (i + 1)) i ∧ dn (swapAt b (i + 1)) i ∧ dn (swapAt (swapAt b (i + 1)) i) (i + 1) := by
  have hi : i + 1 < n := by omega
  unfold dn at *
  rw [nsw hb hi, nsw hb hi, nsw (hb.swapAt hi) hj, nsw (hb.swapAt hi) hj, nsw hb hi, nsw hb hi, nsw hb hj, nsw hb hj, nsw (hb.swapAt hj) hi, nsw (hb.swapAt hj) hi, nsw hb hj, nsw hb hj]
  have e1 : swN i (i + 1) = i := by unfold swN; grind
  have e2 : swN i (i + 1 + 1) = i + 1 + 1 := by unfold swN; grind
  have e3 : swN (i + 1) i = i := by unfold swN; grind
  have e4 : swN (i + 1) (i + 1) = i + 1 + 1 := by unfold swN; grind
  have e5 : swN i i = i + 1 := by unfold swN; grind
  have e6 : swN (i + 1) (i + 1 + 1) = i + 1 := by unfold swN; grind
  simp only [e1, e2, e3, e4, e5, e6]
  omega
theorem up_next (ha : Pn n a) (hj : i + 1 + 1 < n) (h1 : up a i) (h2 : up a (i + 1)) : up (swapV a i) (i + 1) ∧ up (swapV (swapV a i) (i + 1)) i ∧ up (swapV a (i + 1)) i ∧ up (swapV (swapV a (i + 1)) i) (i + 1) := by
  have hi : i + 1 < n := by omega
  unfold up at *
  have hb := ha.back
  rw [back_swapV (ha.swapV hi) hj, back_swapV (ha.swapV hj) hi, back_swapV ha hi, back_swapV ha hj]
  rw [nsw hb hi, nsw hb hi, nsw (hb.swapAt hi) hj, nsw (hb.swapAt hi) hj, nsw hb hi, nsw hb hi, nsw hb hj, nsw hb hj, nsw (hb.swapAt hj) hi, nsw (hb.swapAt hj) hi, nsw hb hj, nsw hb hj]
  have e1 : swN i (i + 1) = i := by unfold swN; grind
  have e2 : swN i (i + 1 + 1) = i + 1 + 1 := by unfold swN; grind
  have e3 : swN (i + 1) i = i := by unfold swN; grind
  have e4 : swN (i + 1) (i + 1) = i + 1 + 1 := by unfold swN; grind
  have e5 : swN i i = i + 1 := by unfold swN; grind
  have e6 : swN (i + 1) (i + 1 + 1) = i + 1 := by unfold swN; grind
  simp only [e1, e2, e3, e4, e5, e6]
  omega
/-- Two crossings of the same pair. -/
theorem conf_same (post : List (List Int)) (ha : Pn n a) (hb : Pn n b) (hi : i + 1 < n) (hj : j + 1 < n) (ui : up a i) (di : dn b i) (uj : up a j) (dj : dn b j) :
    ∃ D, Reach n (swapV a i :: swapAt b i :: post) D ∧ Reach n (swapV a j :: swapAt b j :: post) D := by
  have next : ∀ i, i + 1 + 1 < n → up a i → dn b i → up a (i + 1) → dn b (i + 1) → ∃ D, Reach n (swapV a i :: swapAt b i :: post) D ∧ Reach n (swapV a (i + 1) :: swapAt b (i + 1) :: post) D := by
    intro i hj ui di uj dj
    have hi : i + 1 < n := by omega
    obtain ⟨u1, u2, u3, u4⟩ := up_next ha hj ui uj
    obtain ⟨d1, d2, d3, d4⟩ := dn_next hb hj di dj
    refine ⟨_, .head (.here post hj u1 d1) (.one (.here post hi u2 d2)), ?_⟩
    rw [swapV_braid, swapAt_braid hb hj]
    exact .head (.here post hi u3 d3) (.one (.here post hj u4 d4))
  by_cases e : i = j
  · subst e; exact ⟨_, .refl _, .refl _⟩
  · by_cases e1 : j = i + 1
    · subst e1; exact next i hj ui di uj dj
    · by_cases e2 : i = j + 1
      · subst e2
        obtain ⟨D, h1, h2⟩ := next j hi uj dj ui di
        exact ⟨D, h2, h1⟩
      · have hf : i + 1 < j ∨ j + 1 < i := by omega
        refine ⟨_, .one (.here post hj ((up_far ha hi hf).2 uj) ((dn_far hb hi hf).2 dj)), ?_⟩
        rw [swapV_far hf, swapAt_far hb hi hj hf]
        exact .one (.here post hi ((up_far ha hj hf.symm).2 ui) ((dn_far hb hj hf.symm).2 di))
/-- A crossing of a factor's beginning and one at its end. -/
theorem dn_keep (hb : Pn n b) (hi : i + 1 < n) (hj : j + 1 < n) (di : dn b i) (uj : up b j) : dn (swapV b j) i := by
  unfold dn at *
  rw [nth_swapV _ _ _ (by rw [hb.len]; omega), nth_swapV _ _ _ (by rw [hb.len]; omega)]
  by_cases h : nth b (i + 1) = j ∧ nth b i = (j : Int) + 1
  · exfalso
    have h1 := back_at hb hi
    have h2 := back_at hb (q := i) (by omega)
    rw [h.1, Int.toNat_natCast] at h1
    rw [h.2, show ((j : Int) + 1).toNat = j + 1 by omega] at h2
    unfold up at uj
    omega
  · unfold swV; grind
theorem up_keep (hb : Pn n b) (hi : i + 1 < n) (hj : j + 1 < n) (di : dn b i) (uj : up b j) : up (swapAt b i) j := by
  unfold up at *
  rw [back_swapAt hb hi, nth_swapV _ _ _ (by rw [hb.back.len]; omega), nth_swapV _ _ _ (by rw [hb.back.len]; omega)]
  by_cases h : nth (backL b) j = i ∧ nth (backL b) (j + 1) = (i : Int) + 1
  · exfalso
    have h1 := back_at hb.back hj
    have h2 := back_at hb.back (q := j) (by omega)
    rw [back_back hb] at h1 h2
    rw [h.2, show ((i : Int) + 1).toNat = i + 1 by omega] at h1
    rw [h.1, Int.toNat_natCast] at h2
    unfold dn at di
    omega
  · unfold swV; grind
/-- A crossing of the first pair, and one behind it. -/
theorem conf_next {post G : List (List Int)} (ha : Pn n a) (hg : Good n (b :: post)) (hi : i + 1 < n) (ui : up a i) (di : dn b i) (h : Step n (b :: post) G) :
    ∃ D, Reach n (swapV a i :: swapAt b i :: post) D ∧ Reach n (a :: G) D := by
  cases h with
  | here post' hj uj dj =>
    rename_i d j
    have hb := hg.hd
    refine ⟨_, .one (.next _ (.here post' hj (up_keep hb hi hj di uj) dj)), ?_⟩
    rw [← swap_comm hb hi j]
    exact .one (.here _ hi ui (dn_keep hb hi hj di uj))
  | next _ h =>
    exact ⟨_, .one (.next _ (.next _ h)), .one (.here _ hi ui di)⟩
end
theorem conf {n : Nat} {F A : List (List Int)} (h : Step n F A) : ∀ B, Good n F → Step n F B → ∃ D, Reach n A D ∧ Reach n B D := by
  induction h with
  | here post hi hu hd =>
    intro B g k
    cases k with
    | here _ hj uj dj => exact conf_same post g.hd g.tl.hd hi hj hu hd uj dj
    | next _ k => exact conf_next g.hd g.tl hi hu hd k
  | next x h ih =>
    intro B g k
    cases k with
    | here post hj uj dj =>
      obtain ⟨D, h1, h2⟩ := conf_next g.hd g.tl hj uj dj h
      exact ⟨D, h2, h1⟩
    | next _ k =>
      obtain ⟨D, h1, h2⟩ := ih _ g.tl k
      exact ⟨_, h1.cons x, h2.cons x⟩
theorem unique {n : Nat} : ∀ m F, mu F ≤ m → Good n F → ∀ A B, Reach n F A → Tight n A → Reach n F B → Tight n B → A = B := by
  intro m
  induction m with
  | zero =>
    intro F h g A B hA _ hB _
    cases hA with
    | head h1 _ => have := h1.mu g; omega
    | refl => cases hB with
      | refl => rfl
      | head h1 _ => have := h1.mu g; omega
  | succ m ih =>
    intro F h g A B hA tA hB tB
    cases hA with
    | refl => cases hB with
      | refl => rfl
      | head h1 _ => exact absurd h1 (tA _)
    | head h1 k1 =>
      cases hB with
      | refl => exact absurd h1 (tB _)
      | head h2 k2 =>
        obtain ⟨D, d1, d2⟩ := conf h1 _ g h2
        have m1 := h1.mu g
        have m2 := h2.mu g
        obtain ⟨T, t1, t2⟩ := exists_tight (n := n) _ D (Nat.le_refl _) (d1.good (h1.good g))
        have e1 := ih _ (by omega) (h1.good g) A T k1 tA (d1.trans t1) t2
        have e2 := ih _ (by omega) (h2.good g) B T k2 tB (d2.trans t1) t2
        rw [e1, e2]
/-- What is reached leads to the same end. -/
theorem same_end {n : Nat} {F G T : List (List Int)} (g : Good n F) (h : Reach n F G) (k : Reach n F T) (t : Tight n T) : Reach n G T := by
  obtain ⟨S, s1, s2⟩ := exists_tight (n := n) _ G (Nat.le_refl _) (h.good g)
  rw [unique _ F (Nat.le_refl _) g T S k t (h.trans s1) s2]
  exact s1

end Go.Proofs.Ytnkahkahcajahaa

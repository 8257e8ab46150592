/- Powers of the half twist below and above braid words. No program. -/
import Derived.Test.YtnmklkjlcpgjmaaQDehornoyRelations0
import Derived.Test.YtnmklkjlcpgjmaaQDehornoyRelations1
import Derived.Test.YtnmklkjlcpgjmaaQDehornoyRelations2

namespace Go.Proofs.Ytnmklkjlcpgjmaa
open Go.RowKit Go.Sl

/-- A crossing of a factor is moved to the end of the factor before it. -/
inductive Step (n : Nat) : List (List Int) → List (List Int) → Prop
  | here {a b : List Int} {i : Nat} (post : List (List Int)) (hi : i + 1 < n) (hu : up a i) (hd : dn b i) : Step n (a :: b :: post) (swapV a i :: swapAt b i :: post)
  | next (x : List Int) {F G : List (List Int)} (h : Step n F G) : Step n (x :: F) (x :: G)
inductive Reach (n : Nat) : List (List Int) → List (List Int) → Prop
  | refl (F : List (List Int)) : Reach n F F
  | head {F G H : List (List Int)} (h : Step n F G) (k : Reach n G H) : Reach n F H
def Good (n : Nat) (F : List (List Int)) : Prop := ∀ a ∈ F, Pn n a
def Tight (n : Nat) (F : List (List Int)) : Prop := ∀ G, ¬ Step n F G

theorem Good.cons {n : Nat} {a : List Int} {F : List (List Int)} (h : Pn n a) (k : Good n F) : Good n (a :: F) := fun x hx => by
  rcases List.mem_cons.1 hx with rfl | hx
  · exact h
  · exact k x hx
theorem Good.hd {n : Nat} {a : List Int} {F : List (List Int)} (h : Good n (a :: F)) : Pn n a := h a (by simp)
theorem Good.tl {n : Nat} {a : List Int} {F : List (List Int)} (h : Good n (a :: F)) : Good n F := fun x hx => h x (by simp [hx])
theorem Good.app {n : Nat} {F G : List (List Int)} (h : Good n F) (k : Good n G) : Good n (F ++ G) := fun x hx => (List.mem_append.1 hx).elim (h x) (k x)
theorem good_nil (n : Nat) : Good n [] := fun _ h => by cases h
theorem Step.good {n : Nat} {F G : List (List Int)} (h : Step n F G) : Good n F → Good n G := by
  induction h with
  | here post hi hu hd => exact fun g => (g.hd.swapV hi).1 |> fun _ => Good.cons (g.hd.swapV hi) (Good.cons (g.tl.hd.swapAt hi) g.tl.tl)
  | next x h ih => exact fun g => Good.cons g.hd (ih g.tl)
theorem Step.len {n : Nat} {F G : List (List Int)} (h : Step n F G) : G.length = F.length := by
  induction h with
  | here => rfl
  | next x h ih => simp [ih]
def tot : List (List Int) → Nat
  | [] => 0
  | a :: F => inv a + tot F
def mu : List (List Int) → Nat
  | [] => 0
  | _ :: F => mu F + tot F
theorem Step.tot {n : Nat} {F G : List (List Int)} (h : Step n F G) : Good n F → Go.Proofs.Ytnmklkjlcpgjmaa.tot G = Go.Proofs.Ytnmklkjlcpgjmaa.tot F := by
  induction h with
  | here post hi hu hd =>
    intro g
    have h1 := inv_up g.hd hi hu
    have h2 := inv_dn g.tl.hd hi hd
    simp only [Go.Proofs.Ytnmklkjlcpgjmaa.tot]; omega
  | next x h ih => intro g; simp only [Go.Proofs.Ytnmklkjlcpgjmaa.tot, ih g.tl]
theorem Step.mu {n : Nat} {F G : List (List Int)} (h : Step n F G) : Good n F → Go.Proofs.Ytnmklkjlcpgjmaa.mu G + 1 = Go.Proofs.Ytnmklkjlcpgjmaa.mu F := by
  induction h with
  | here post hi hu hd =>
    intro g
    have h2 := inv_dn g.tl.hd hi hd
    simp only [Go.Proofs.Ytnmklkjlcpgjmaa.mu, Go.Proofs.Ytnmklkjlcpgjmaa.tot]; omega
  | next x h ih =>
    intro g
    have h1 := ih g.tl
    have h2 := h.tot g.tl
    simp only [Go.Proofs.Ytnmklkjlcpgjmaa.mu]; omega
theorem Reach.trans {n : Nat} {F G H : List (List Int)} (h : Reach n F G) (k : Reach n G H) : Reach n F H := by
  induction h with
  | refl => exact k
  | head h _ ih => exact .head h (ih k)
theorem Reach.one {n : Nat} {F G : List (List Int)} (h : Step n F G) : Reach n F G := .head h (.refl _)
theorem Reach.good {n : Nat} {F G : List (List Int)} (h : Reach n F G) : Good n F → Good n G := by
  induction h with
  | refl => exact id
  | head h _ ih => exact fun g => ih (h.good g)
theorem Reach.len {n : Nat} {F G : List (List Int)} (h : Reach n F G) : G.length = F.length := by
  induction h with
  | refl => rfl
  | head h _ ih => rw [ih, h.len]
theorem Reach.tot {n : Nat} {F G : List (List Int)} (h : Reach n F G) : Good n F → Go.Proofs.Ytnmklkjlcpgjmaa.tot G = Go.Proofs.Ytnmklkjlcpgjmaa.tot F := by
  induction h with
  | refl => exact fun _ => rfl
  | head h _ ih => exact fun g => (ih (h.good g)).trans (h.tot g)
theorem Reach.cons {n : Nat} (x : List Int) {F G : List (List Int)} (h : Reach n F G) : Reach n (x :: F) (x :: G) := by
  induction h with
  | refl => exact .refl _
  | head h _ ih => exact .head (.next x h) ih
theorem Reach.pre {n : Nat} (P : List (List Int)) {F G : List (List Int)} (h : Reach n F G) : Reach n (P ++ F) (P ++ G) := by
  induction P with
  | nil => exact h
  | cons x P ih => exact ih.cons x
theorem Step.post {n : Nat} {F G : List (List Int)} (h : Step n F G) (Q : List (List Int)) : Step n (F ++ Q) (G ++ Q) := by
  induction h with
  | here post hi hu hd => exact .here (post ++ Q) hi hu hd
  | next x h ih => exact .next x ih
theorem Reach.post {n : Nat} {F G : List (List Int)} (h : Reach n F G) (Q : List (List Int)) : Reach n (F ++ Q) (G ++ Q) := by
  induction h with
  | refl => exact .refl _
  | head h _ ih => exact .head (h.post Q) ih
theorem exists_tight {n : Nat} : ∀ m F, mu F ≤ m → Good n F → ∃ T, Reach n F T ∧ Tight n T := by
  intro m
  induction m with
  | zero =>
    intro F h g
    exact ⟨F, .refl _, fun G hs => by have := hs.mu g; omega⟩
  | succ m ih =>
    intro F h g
    by_cases ht : Tight n F
    · exact ⟨F, .refl _, ht⟩
    · obtain ⟨G, hG⟩ := Classical.not_forall.1 ht
      have hs := Classical.not_not.1 hG
      obtain ⟨T, h1, h2⟩ := ih G (by have := hs.mu g; omega) (hs.good g)
      exact ⟨T, .head hs h1, h2⟩

/-! Local confluence. -/
section
variable {n : Nat} {a b d : List Int} {i j : Nat}
theorem swapV_far (h : i + 1 < j ∨ j + 1 < i) : swapV (swapV a i) j = swapV (swapV a j) i := by
  unfold swapV
  rw [List.map_map, List.map_map]
  refine List.map_congr_left fun x _ => ?_
  show swV j (swV i x) = swV i (swV j x)
  unfold swV; grind
theorem swapAt_far (hb : Pn n b) (hi : i + 1 < n) (hj : j + 1 < n) (h : i + 1 < j ∨ j + 1 < i) : swapAt (swapAt b i) j = swapAt (swapAt b j) i := by
  refine ext_nth (by simp [swapAt_length]) fun q _ => ?_
  rw [nth_swapAt' _ _ _ (by rw [swapAt_length, hb.len]; exact hj), nth_swapAt' _ _ _ (by rw [hb.len]; exact hi), nth_swapAt' _ _ _ (by rw [swapAt_length, hb.len]; exact hi), nth_swapAt' _ _ _ (by rw [hb.len]; exact hj)]
  congr 1
  unfold swN; grind
theorem nsw (hb : Pn n b) (hi : i + 1 < n) (q : Nat) : nth (swapAt b i) q = nth b (swN i q) := nth_swapAt' b i q (by rw [hb.len]; exact hi)
theorem dn_far (hb : Pn n b) (hi : i + 1 < n) (h : i + 1 < j ∨ j + 1 < i) : dn (swapAt b i) j ↔ dn b j := by
  unfold dn
  rw [nsw hb hi, nsw hb hi]
  have e1 : swN i j = j := by unfold swN; grind
  have e2 : swN i (j + 1) = j + 1 := by unfold swN; grind
  rw [e1, e2]
theorem up_far (ha : Pn n a) (hi : i + 1 < n) (h : i + 1 < j ∨ j + 1 < i) : up (swapV a i) j ↔ up a j := by
  unfold up
  rw [back_swapV ha hi, nsw ha.back hi, nsw ha.back hi]
  have e1 : swN i j = j := by unfold swN; grind
  have e2 : swN i (j + 1) = j + 1 := by unfold swN; grind
  rw [e1, e2]
theorem swapV_braid : swapV (swapV (swapV a i) (i + 1)) i = swapV (swapV (swapV a (i + 1)) i) (i + 1) := by
  unfold swapV
  rw [List.map_map, List.map_map, List.map_map, List.map_map]
  refine List.map_congr_left fun x _ => ?_
  show swV i (swV (i + 1) (swV i x)) = swV (i + 1) (swV i (swV (i + 1) x))
  unfold swV; grind
theorem swapAt_braid (hb : Pn n b) (hj : i + 1 + 1 < n) : swapAt (swapAt (swapAt b i) (i + 1)) i = swapAt (swapAt (swapAt b (i + 1)) i) (i + 1) := by
  have hi : i + 1 < n := by omega
  refine ext_nth (by simp [swapAt_length]) fun q _ => ?_
  rw [nsw ((hb.swapAt hi).swapAt hj) hi, nsw (hb.swapAt hi) hj, nsw hb hi, nsw ((hb.swapAt hj).swapAt hi) hj, nsw (hb.swapAt hj) hi, nsw hb hj]
  congr 1
  unfold swN; grind
/-- Two neighbouring crossings: what else can be moved behind the first. -/
theorem dn_next (hb : Pn n b) (hj : i + 1 + 1 < n) (h1 : dn b i) (h2 : dn b (i + 1)) : dn (swapAt b i) (i + 1) ∧ dn (swapAt (swapAt b i) (i + 1)) i ∧ dn (swapAt b (i + 1)) i ∧ dn (swapAt (swapAt b (i + 1)) i) (i + 1) := by
  have hi : i + 1 < n := by omega
  unfold dn at *
  rw [nsw hb hi, nsw hb hi, nsw (hb.swapAt hi) hj, nsw (hb.swapAt hi) hj, nsw hb hi, nsw hb hi, nsw hb hj, nsw hb hj, nsw (hb.swapAt hj) hi, nsw (hb.swapAt hj) hi, nsw hb hj, nsw hb hj]
  have e1 : swN i (i + 1) = i := by unfold swN; grind
  have e2 : swN i (i + 1 + 1) = i + 1 + 1 := by unfold swN; grind
  have e3 : swN (i + 1) i = i := by unfold swN; grind
  have e4 : swN (i + 1) (i + 1) = i + 1 + 1 := by unfold swN; grind
  have e5 : swN i i = i + 1 := by unfold swN; grind
  have e6 : swN (i + 1) (i + 1 + 1) = i + 1 := by unfold swN; grind
  simp only [e1, e2, e3, e4, e5, e6]
  omega
theorem up_next (ha : Pn n a) (hj : i + 1 + 1 < n) (h1 : up a i) (h2 : up a (i + 1)) : up (swapV a i) (i + 1) ∧ up (swapV (swapV a i) (i + 1)) i ∧ up (swapV a (i + 1)) i ∧ up (swapV (swapV a (i + 1)) i) (i + 1) := by
  have hi : i + 1 < n := by omega
  unfold up at *
  have hb := ha.back
  rw [back_swapV (ha.swapV hi) hj, back_swapV (ha.swapV hj) hi, back_swapV ha hi, back_swapV ha hj]
  rw [nsw hb hi, nsw hb hi, nsw (hb.swapAt hi) hj, nsw (hb.swapAt hi) hj, nsw hb hi, nsw hb hi, nsw hb hj, nsw hb hj, nsw (hb.swapAt hj) hi, nsw (hb.swapAt hj) hi, nsw hb hj, nsw hb hj]
  have e1 : swN i (i + 1) = i := by unfold swN; grind
  have e2 : swN i (i + 1 + 1) = i + 1 + 1 := by unfold swN; grind
  have e3 : swN (i + 1) i = i := by unfold swN; grind
  have e4 : swN (i + 1) (i + 1) = i + 1 + 1 := by unfold swN; grind
  have e5 : swN i i = i + 1 := by unfold swN; grind
  have e6 : swN (i + 1) (i + 1 + 1) = i + 1 := by unfold swN; grind
  simp only [e1, e2, e3, e4, e5, e6]
  omega
/-- Two crossings of the same pair. -/
theorem conf_same (post : List (List Int)) (ha : Pn n a) (hb : Pn n b) (hi : i + 1 < n) (hj : j + 1 < n) (ui : up a i) (di : dn b i) (uj : up a j) (dj : dn b j) :
    ∃ D, Reach n (swapV a i :: swapAt b i :: post) D ∧ Reach n (swapV a j :: swapAt b j :: post) D := by
  have next : ∀ i, i + 1 + 1 < n → up a i → dn b i → up a (i + 1) → dn b (i + 1) → ∃ D, Reach n (swapV a i :: swapAt b i :: post) D ∧ Reach n (swapV a (i + 1) :: swapAt b (i + 1) :: post) D := by
    intro i hj ui di uj dj
    have hi : i + 1 < n := by omega
    obtain ⟨u1, u2, u3, u4⟩ := up_next ha hj ui uj
    obtain ⟨d1, d2, d3, d4⟩ := dn_next hb hj di dj
    refine ⟨_, .head (.here post hj u1 d1) (.one (.here post hi u2 d2)), ?_⟩
    rw [swapV_braid, swapAt_braid hb hj]
    exact .head (.here post hi u3 d3) (.one (.here post hj u4 d4))
  by_cases e : i = j
  · subst e; exact ⟨_, .refl _, .refl _⟩
  · by_cases e1 : j = i + 1
    · subst e1; exact next i hj ui di uj dj
    · by_cases e2 : i = j + 1
      · subst e2
        obtain ⟨D, h1, h2⟩ := next j hi uj dj ui di
        exact ⟨D, h2, h1⟩
      · have hf : i + 1 < j ∨ j + 1 < i := by omega
        refine ⟨_, .one (.here post hj ((up_far ha hi hf).2 uj) ((dn_far hb hi hf).2 dj)), ?_⟩
        rw [swapV_far hf, swapAt_far hb hi hj hf]
        exact .one (.here post hi ((up_far ha hj hf.symm).2 ui) ((dn_far hb hj hf.symm).2 di))
/-- A crossing of a factor's beginning and one at its end. -/
theorem dn_keep (hb : Pn n b) (hi : i + 1 < n) (_hj : j + 1 < n) (di : dn b i) (uj : up b j) : dn (swapV b j) i := by
  unfold dn at *
  rw [nth_swapV _ _ _ (by rw [hb.len]; omega), nth_swapV _ _ _ (by rw [hb.len]; omega)]
  by_cases h : nth b (i + 1) = j ∧ nth b i = (j : Int) + 1
  · exfalso
    have h1 := back_at hb hi
    have h2 := back_at hb (q := i) (by omega)
    rw [h.1, Int.toNat_natCast] at h1
    rw [h.2, show ((j : Int) + 1).toNat = j + 1 by omega] at h2
    unfold up at uj
    omega
  · unfold swV; grind
theorem up_keep (hb : Pn n b) (hi : i + 1 < n) (hj : j + 1 < n) (di : dn b i) (uj : up b j) : up (swapAt b i) j := by
  unfold up at *
  rw [back_swapAt hb hi, nth_swapV _ _ _ (by rw [hb.back.len]; omega), nth_swapV _ _ _ (by rw [hb.back.len]; omega)]
  by_cases h : nth (backL b) j = i ∧ nth (backL b) (j + 1) = (i : Int) + 1
  · exfalso
    have h1 := back_at hb.back hj
    have h2 := back_at hb.back (q := j) (by omega)
    rw [back_back hb] at h1 h2
    rw [h.2, show ((i : Int) + 1).toNat = i + 1 by omega] at h1
    rw [h.1, Int.toNat_natCast] at h2
    unfold dn at di
    omega
  · unfold swV; grind
/-- A crossing of the first pair, and one behind it. -/
theorem conf_next {post G : List (List Int)} (_ha : Pn n a) (hg : Good n (b :: post)) (hi : i + 1 < n) (ui : up a i) (di : dn b i) (h : Step n (b :: post) G) :
    ∃ D, Reach n (swapV a i :: swapAt b i :: post) D ∧ Reach n (a :: G) D := by
  cases h with
  | here post' hj uj dj =>
    rename_i d j
    have hb := hg.hd
    refine ⟨_, .one (.next _ (.here post' hj (up_keep hb hi hj di uj) dj)), ?_⟩
    rw [← swap_comm hb hi j]
    exact .one (.here _ hi ui (dn_keep hb hi hj di uj))
  | next _ h =>
    exact ⟨_, .one (.next _ (.next _ h)), .one (.here _ hi ui di)⟩
end
theorem conf {n : Nat} {F A : List (List Int)} (h : Step n F A) : ∀ B, Good n F → Step n F B → ∃ D, Reach n A D ∧ Reach n B D := by
  induction h with
  | here post hi hu hd =>
    intro B g k
    cases k with
    | here _ hj uj dj => exact conf_same post g.hd g.tl.hd hi hj hu hd uj dj
    | next _ k => exact conf_next g.hd g.tl hi hu hd k
  | next x h ih =>
    intro B g k
    cases k with
    | here post hj uj dj =>
      obtain ⟨D, h1, h2⟩ := conf_next g.hd g.tl hj uj dj h
      exact ⟨D, h2, h1⟩
    | next _ k =>
      obtain ⟨D, h1, h2⟩ := ih _ g.tl k
      exact ⟨_, h1.cons x, h2.cons x⟩
theorem unique {n : Nat} : ∀ m F, mu F ≤ m → Good n F → ∀ A B, Reach n F A → Tight n A → Reach n F B → Tight n B → A = B := by
  intro m
  induction m with
  | zero =>
    intro F h g A B hA _ hB _
    cases hA with
    | head h1 _ => have := h1.mu g; omega
    | refl => cases hB with
      | refl => rfl
      | head h1 _ => have := h1.mu g; omega
  | succ m ih =>
    intro F h g A B hA tA hB tB
    cases hA with
    | refl => cases hB with
      | refl => rfl
      | head h1 _ => exact absurd h1 (tA _)
    | head h1 k1 =>
      cases hB with
      | refl => exact absurd h1 (tB _)
      | head h2 k2 =>
        obtain ⟨D, d1, d2⟩ := conf h1 _ g h2
        have m1 := h1.mu g
        have m2 := h2.mu g
        obtain ⟨T, t1, t2⟩ := exists_tight (n := n) _ D (Nat.le_refl _) (d1.good (h1.good g))
        have e1 := ih _ (by omega) (h1.good g) A T k1 tA (d1.trans t1) t2
        have e2 := ih _ (by omega) (h2.good g) B T k2 tB (d2.trans t1) t2
        rw [e1, e2]
/-- What is reached leads to the same end. -/
theorem same_end {n : Nat} {F G T : List (List Int)} (g : Good n F) (h : Reach n F G) (k : Reach n F T) (t : Tight n T) : Reach n G T := by
  obtain ⟨S, s1, s2⟩ := exists_tight (n := n) _ G (Nat.le_refl _) (h.good g)
  rw [unique _ F (Nat.le_refl _) g T S k t (h.trans s1) s2]
  exact s1

end Go.Proofs.Ytnmklkjlcpgjmaa

namespace Go.Proofs.Ytnmklkjlcpgjmaa
open Go.RowKit Go.Sl

section
variable {n : Nat} {a b d f g : List Int} {i j : Nat}
theorem back_iota (hn : n ≤ 1000) {i : Nat} (hi : i < n) : nth (backL (iota n)) i = i := by
  have := back_at (pn_iota hn) hi
  rwa [nth_iota _ _ hi, Int.toNat_natCast] at this
theorem up_iota (hn : n ≤ 1000) (hi : i + 1 < n) : up (iota n) i := by
  unfold up; rw [back_iota hn (by omega), back_iota hn hi]; omega
theorem not_dn_iota (hi : i + 1 < n) : ¬ dn (iota n) i := by
  unfold dn; rw [nth_iota _ _ hi, nth_iota _ _ (by omega)]; omega
theorem inv_asc (l : List Int) : Asc l → inv l = 0 := by
  induction l with
  | nil => intro _; rfl
  | cons x t ih =>
    intro h
    have h' := List.pairwise_cons.1 h
    have : less t x = 0 := by
      unfold less
      rw [List.length_eq_zero_iff, List.filter_eq_nil_iff]
      intro y hy
      have := h'.1 y hy
      simp; omega
    rw [inv, this, ih h'.2]
theorem inv_iota (n : Nat) : inv (iota n) = 0 := inv_asc _ (asc_iota n)
/-- A single crossing. -/
def sgP (n i : Nat) : List Int := swapV (iota n) i
theorem pn_sg (hn : n ≤ 1000) (hi : i + 1 < n) : Pn n (sgP n i) := (pn_iota hn).swapV hi
theorem swapAt_sg (hi : i + 1 < n) : swapAt (sgP n i) i = iota n := by
  unfold sgP
  rw [swapV_iota hi, swapAt_swapAt _ _ (by rw [iota_length]; exact hi)]
theorem dn_sg (hi : i + 1 < n) : dn (sgP n i) i := by
  unfold dn sgP
  rw [nth_swapV _ _ _ (by rw [iota_length]; exact hi), nth_swapV _ _ _ (by rw [iota_length]; omega), nth_iota _ _ hi, nth_iota _ _ (by omega)]
  unfold swV; grind
theorem inv_sg (hn : n ≤ 1000) (hi : i + 1 < n) : inv (sgP n i) = 1 := by
  unfold sgP; rw [inv_up (pn_iota hn) hi (up_iota hn hi), inv_iota]

theorem thenL_swap (ha : Pn n a) (hb : Pn n b) (hi : i + 1 < n) : thenL (swapV a i) (swapAt b i) = thenL a b := by
  refine ext_nth (by simp [thenL_length, swapV_length]) fun q hq => ?_
  rw [thenL_length, swapV_length, ha.len] at hq
  rw [nth_thenL _ _ _ (by rw [swapV_length, ha.len]; exact hq), nth_thenL _ _ _ (by rw [ha.len]; exact hq), nth_swapV _ _ _ (by rw [ha.len]; exact hq), nsw hb hi]
  have hr := ha.range hq
  congr 1
  unfold swN swV; grind
theorem thenL_swapV (ha : Pn n a) (hd : Pn n d) : thenL a (swapV d j) = swapV (thenL a d) j := by
  refine ext_nth (by simp [thenL_length, swapV_length]) fun q hq => ?_
  rw [thenL_length, ha.len] at hq
  have hr := ha.range hq
  rw [nth_thenL _ _ _ (by rw [ha.len]; exact hq), nth_swapV _ _ _ (by rw [hd.len]; omega), nth_swapV _ _ _ (by rw [thenL_length, ha.len]; exact hq), nth_thenL _ _ _ (by rw [ha.len]; exact hq)]
theorem then_iota (ha : Pn n a) : thenL a (iota n) = a := by
  have := iota_thenL ha.perm.range
  rwa [ha.len] at this
theorem iota_then (ha : Pn n a) : thenL (iota n) a = a := by
  have := thenL_iota a
  rwa [ha.len] at this
theorem inv_sub (hn : n ≤ 1000) (ha : Pn n a) : ∀ d, Pn n d → inv (thenL a d) ≤ inv a + inv d := by
  refine permInd hn ?_ fun f j hf hj hu ih => ?_
  · rw [then_iota ha]; omega
  · rw [thenL_swapV ha hf, inv_up hf hj hu]
    have hp := ha.then hf
    rcases up_or hp hj with h | h
    · rw [inv_up hp hj h]; omega
    · have := inv_down hp hj h; omega
theorem step_iota {F G : List (List Int)} (h : Step n (F ++ [iota n]) G) : ∃ F', G = F' ++ [iota n] ∧ Step n F F' := by
  induction F generalizing G with
  | nil => cases h with
    | next _ h => cases h
  | cons x F ih =>
    cases F with
    | nil =>
      cases h with
      | here post hi hu hd => exact absurd hd (not_dn_iota hi)
      | next _ h => cases h with
        | next _ h => cases h
    | cons y F =>
      cases h with
      | here post hi hu hd => exact ⟨_ :: _ :: F, rfl, .here F hi hu hd⟩
      | next _ h =>
        obtain ⟨F', e, k⟩ := ih h
        exact ⟨x :: F', by rw [e]; rfl, .next x k⟩
theorem reach_iota {A G : List (List Int)} (h : Reach n A G) : ∀ F, A = F ++ [iota n] → ∃ F', G = F' ++ [iota n] ∧ Reach n F F' := by
  induction h with
  | refl A => exact fun F e => ⟨F, e, .refl F⟩
  | head h k ih =>
    intro F e
    subst e
    obtain ⟨F1, e1, h1⟩ := step_iota h
    obtain ⟨F2, e2, h2⟩ := ih F1 e1
    exact ⟨F2, e2, .head h1 h2⟩
theorem reach_strip {F T : List (List Int)} (h : Reach n (F ++ [iota n]) (T ++ [iota n])) : Reach n F T := by
  obtain ⟨F', e, k⟩ := reach_iota h F rfl
  rw [List.append_cancel_right e]; exact k
theorem tight_one (a : List Int) : Tight n [a] := fun G h => by
  cases h with
  | next _ h => cases h
theorem tight_nil : Tight n [] := fun G h => by cases h
theorem Tight.tl {T : List (List Int)} (h : Tight n (a :: T)) : Tight n T := fun _G k => h _ (.next a k)
theorem Tight.pair {T : List (List Int)} (h : Tight n (a :: b :: T)) : ∀ i, i + 1 < n → dn b i → ¬ up a i := fun _i hi hd hu => h _ (.here T hi hu hd)
theorem tight_cons {T : List (List Int)} (h : Tight n (b :: T)) (k : ∀ i, i + 1 < n → dn b i → ¬ up a i) : Tight n (a :: b :: T) := fun G s => by
  cases s with
  | here post hi hu hd => exact k _ hi hd hu
  | next _ s => exact h _ s
theorem tight_iota {T : List (List Int)} (h : Tight n T) : Tight n (T ++ [iota n]) := fun G s => by
  obtain ⟨F', _, k⟩ := step_iota s
  exact h _ k

/-- Two factors whose product is a factor. -/
theorem rp (hn : n ≤ 1000) (ha : Pn n a) : ∀ d, Pn n d → inv (thenL a d) = inv a + inv d → Reach n [a, d] [thenL a d, iota n] := by
  refine permInd hn (fun _ => by rw [then_iota ha]; exact .refl _) fun f j hf hj hu ih h => ?_
  rw [thenL_swapV ha hf] at h ⊢
  have hp := ha.then hf
  have hsub := inv_sub hn ha f hf
  rw [inv_up hf hj hu] at h
  have hup : up (thenL a f) j := by
    rcases up_or hp hj with h1 | h1
    · exact h1
    · have := inv_down hp hj h1; omega
  rw [inv_up hp hj hup] at h
  have hih := ih (by omega)
  have r1 : Reach n [a, f, sgP n j] [a, swapV f j, iota n] := by
    have := Step.next a (Step.here (n := n) (b := sgP n j) [] hj hu (dn_sg hj))
    rw [swapAt_sg hj] at this
    exact .one this
  have r2 : Reach n [a, f, sgP n j] [swapV (thenL a f) j, iota n, iota n] := by
    have s1 : Reach n [a, f, sgP n j] [thenL a f, iota n, sgP n j] := hih.post [sgP n j]
    have s2 : Step n [thenL a f, iota n, sgP n j] [thenL a f, sgP n j, iota n] := by
      have := Step.next (thenL a f) (Step.here (n := n) (b := sgP n j) [] hj (up_iota hn hj) (dn_sg hj))
      rw [swapAt_sg hj] at this
      exact this
    have s3 : Step n [thenL a f, sgP n j, iota n] [swapV (thenL a f) j, iota n, iota n] := by
      have := Step.here (n := n) (b := sgP n j) [iota n] hj hup (dn_sg hj)
      rw [swapAt_sg hj] at this
      exact this
    exact s1.trans (.head s2 (.one s3))
  have g : Good n [a, f, sgP n j] := .cons ha (.cons hf (.cons (pn_sg hn hj) (good_nil n)))
  have t : Tight n [swapV (thenL a f) j, iota n, iota n] := tight_iota (T := [_, _]) (tight_iota (T := [_]) (tight_one _))
  have := same_end g r1 r2 t
  exact reach_strip (F := [a, swapV f j]) (T := [swapV (thenL a f) j, iota n]) this

/-! The half twist. -/
def hf (n : Nat) : List Int := (iota n).reverse
theorem hf_length (n : Nat) : (hf n).length = n := by simp [hf, iota_length]
theorem nth_grev (l : List Int) {q : Nat} (h : q < l.length) : nth l.reverse q = nth l (l.length - 1 - q) := by
  rw [nth_lt (by simpa using h), List.getElem_reverse, nth_lt (by omega)]
theorem nth_hf {q : Nat} (h : q < n) : nth (hf n) q = (n : Int) - 1 - q := by
  unfold hf
  rw [nth_grev _ (by rw [iota_length]; exact h), iota_length, nth_iota _ _ (by omega)]; omega
theorem pn_hf (hn : n ≤ 1000) : Pn n (hf n) := ⟨⟨by rw [hf_length]; exact List.reverse_perm _, by rw [hf_length]; exact hn⟩, hf_length n⟩
theorem back_hf (hn : n ≤ 1000) {x : Nat} (h : x < n) : nth (backL (hf n)) x = (n : Int) - 1 - x := by
  have := back_at (pn_hf hn) (q := n - 1 - x) (by omega)
  rw [nth_hf (by omega)] at this
  rw [show ((n : Int) - 1 - ((n - 1 - x : Nat) : Int)).toNat = x by omega] at this
  rw [this]; omega
theorem not_up_hf (hn : n ≤ 1000) (hi : i + 1 < n) : ¬ up (hf n) i := by
  unfold up; rw [back_hf hn (by omega), back_hf hn hi]; omega
theorem dn_hf (hi : i + 1 < n) : dn (hf n) i := by
  unfold dn; rw [nth_hf hi, nth_hf (by omega)]; omega
theorem tight_hf (hn : n ≤ 1000) {T : List (List Int)} (h : Tight n T) : Tight n (hf n :: T) := by
  cases T with
  | nil => exact tight_one _
  | cons b T => exact tight_cons h fun i hi _ => not_up_hf hn hi
/-- Only the half twist takes no crossing. -/
theorem hf_of (hn : n ≤ 1000) (ha : Pn n a) (h : ∀ i, i + 1 < n → ¬ up a i) : a = hf n := by
  have h1 : ∀ i, i + 1 < n → dn (backL a) i := fun i hi => (up_or ha hi).resolve_left (h i hi)
  have h2 : (backL a).reverse = iota n := by
    have hp : Pn n (backL a).reverse := by
      have hb := ha.back
      exact ⟨⟨by rw [List.length_reverse]; exact (List.reverse_perm _).trans hb.perm.perm, by rw [List.length_reverse]; exact hb.perm.small⟩, by rw [List.length_reverse, hb.len]⟩
    have e : ∀ i, i + 1 < n → nth (backL a).reverse i < nth (backL a).reverse (i + 1) := fun i hi => by
      have hb := ha.back
      have := h1 (n - 2 - i) (by omega)
      unfold dn at this
      rw [nth_grev _ (by rw [hb.len]; omega), nth_grev _ (by rw [hb.len]; omega), hb.len]
      rw [show n - 1 - (i + 1) = n - 2 - i by omega, show n - 1 - i = n - 2 - i + 1 by omega]
      exact this
    have := iota_of hp.back (fun i hi => by unfold up; rw [back_back hp]; exact e i hi)
    have h3 := congrArg backL this
    rw [back_back hp] at h3
    rw [h3]
    refine ext_nth (by rw [backL_length]) fun q hq => ?_
    rw [backL_length, iota_length] at hq
    rw [back_iota hn hq, nth_iota _ _ hq]
  have h3 : backL a = hf n := by unfold hf; rw [← h2, List.reverse_reverse]
  have h4 := back_back ha
  rw [h3] at h4
  rw [← h4]
  refine ext_nth (by rw [backL_length]) fun q hq => ?_
  rw [backL_length, hf_length] at hq
  rw [back_hf hn hq, nth_hf hq]
theorem inv_hf_up (hn : n ≤ 1000) (hi : i + 1 < n) : inv (swapV (hf n) i) + 1 = inv (hf n) := inv_down (pn_hf hn) hi ((up_or (pn_hf hn) hi).resolve_left (not_up_hf hn hi))
/-- What is left to the half twist. -/
theorem compl (hn : n ≤ 1000) : ∀ f, Pn n f → ∃ g, Pn n g ∧ thenL f g = hf n ∧ inv f + inv g = inv (hf n) := by
  refine permInd hn ⟨hf n, pn_hf hn, iota_then (pn_hf hn), by rw [inv_iota]; omega⟩ fun f j hf' hj hu ih => ?_
  obtain ⟨g, hg, e, hi⟩ := ih
  have hat : ∀ q, q < n → nth g (nth f q).toNat = (n : Int) - 1 - q := fun q hq => by
    have := congrArg (fun l => nth l q) e
    rwa [nth_thenL _ _ _ (by rw [hf'.len]; exact hq), nth_hf hq] at this
  have hd : dn g j := by
    obtain ⟨p, hp, e1, e2⟩ := hit hf' (x := j) (by omega)
    obtain ⟨q, hq, e3, e4⟩ := hit hf' (x := j + 1) hj
    have h1 := hat p hp
    have h2 := hat q hq
    rw [e1, Int.toNat_natCast] at h1
    rw [e3, Int.toNat_natCast] at h2
    unfold up at hu
    rw [e2, e4] at hu
    unfold dn
    omega
  exact ⟨swapAt g j, hg.swapAt hj, by rw [thenL_swap hf' hg hj, e], by rw [inv_up hf' hj hu]; have := inv_dn hg hj hd; omega⟩

/-! Turned factors. -/
def turnP (n : Nat) (a : List Int) : List Int := a.reverse.map fun x => (n : Int) - 1 - x
theorem turn_length (a : List Int) : (turnP n a).length = a.length := by simp [turnP]
theorem nth_turn (ha : a.length = n) {q : Nat} (h : q < n) : nth (turnP n a) q = (n : Int) - 1 - nth a (n - 1 - q) := by
  unfold turnP
  rw [nth_map _ _ _ (by simpa [ha] using h), nth_grev _ (by rw [ha]; exact h), ha]
theorem turn_iota : turnP n (iota n) = iota n := by
  refine ext_nth (by rw [turn_length]) fun q hq => ?_
  rw [turn_length, iota_length] at hq
  rw [nth_turn (iota_length n) hq, nth_iota _ _ hq, nth_iota _ _ (by omega)]; omega
theorem pn_turn (ha : Pn n a) : Pn n (turnP n a) := by
  refine ⟨⟨?_, by rw [turn_length]; exact ha.perm.small⟩, by rw [turn_length, ha.len]⟩
  rw [turn_length, ha.len]
  have h1 : a.Perm (iota n) := by have := ha.perm.perm; rwa [ha.len] at this
  have h2 : (turnP n a).Perm (turnP n (iota n)) := ((List.reverse_perm a).trans (h1.trans (List.reverse_perm (iota n)).symm)).map _
  rw [turn_iota] at h2
  exact h2
theorem turn_turn (ha : Pn n a) : turnP n (turnP n a) = a := by
  refine ext_nth (by rw [turn_length, turn_length]) fun q hq => ?_
  rw [turn_length, turn_length, ha.len] at hq
  rw [nth_turn (by rw [turn_length, ha.len]) hq, nth_turn ha.len (by omega), show n - 1 - (n - 1 - q) = q by omega]; omega
theorem turn_hf : turnP n (hf n) = hf n := by
  refine ext_nth (by rw [turn_length]) fun q hq => ?_
  rw [turn_length, hf_length] at hq
  rw [nth_turn (hf_length n) hq, nth_hf hq, nth_hf (by omega)]; omega
theorem back_turn (ha : Pn n a) {x : Nat} (hx : x < n) : nth (backL (turnP n a)) x = (n : Int) - 1 - nth (backL a) (n - 1 - x) := by
  obtain ⟨q, hq, e1, e2⟩ := hit ha (x := n - 1 - x) (by omega)
  have h1 := back_at (pn_turn ha) (q := n - 1 - q) (by omega)
  rw [nth_turn ha.len (by omega), show n - 1 - (n - 1 - q) = q by omega, e1] at h1
  rw [show ((n : Int) - 1 - ((n - 1 - x : Nat) : Int)).toNat = x by omega] at h1
  rw [h1, e2]; omega
theorem up_turn (ha : Pn n a) (hi : i + 1 < n) : up (turnP n a) i ↔ up a (n - 2 - i) := by
  unfold up
  rw [back_turn ha (by omega), back_turn ha hi, show n - 1 - i = n - 2 - i + 1 by omega, show n - 1 - (i + 1) = n - 2 - i by omega]
  omega
theorem dn_turn (ha : Pn n a) (hi : i + 1 < n) : dn (turnP n a) i ↔ dn a (n - 2 - i) := by
  unfold dn
  rw [nth_turn ha.len hi, nth_turn ha.len (by omega), show n - 1 - i = n - 2 - i + 1 by omega, show n - 1 - (i + 1) = n - 2 - i by omega]
  omega
theorem turn_swapV (ha : Pn n a) (hi : i + 1 < n) : turnP n (swapV a i) = swapV (turnP n a) (n - 2 - i) := by
  refine ext_nth (by simp [turn_length, swapV_length]) fun q hq => ?_
  rw [turn_length, swapV_length, ha.len] at hq
  rw [nth_turn (by rw [swapV_length, ha.len]) hq, nth_swapV _ _ _ (by rw [ha.len]; omega), nth_swapV _ _ _ (by rw [turn_length, ha.len]; exact hq), nth_turn ha.len hq]
  unfold swV; grind
theorem turn_swapAt (ha : Pn n a) (hi : i + 1 < n) : turnP n (swapAt a i) = swapAt (turnP n a) (n - 2 - i) := by
  refine ext_nth (by simp [turn_length, swapAt_length]) fun q hq => ?_
  rw [turn_length, swapAt_length, ha.len] at hq
  rw [nth_turn (by rw [swapAt_length, ha.len]) hq, nsw ha hi, nsw (pn_turn ha) (by omega), nth_turn ha.len (swN_lt (by omega) hq)]
  congr 2
  unfold swN; grind
theorem inv_turn (hn : n ≤ 1000) : ∀ f, Pn n f → inv (turnP n f) = inv f := by
  refine permInd hn (by rw [turn_iota]) fun f j hf' hj hu ih => ?_
  rw [turn_swapV hf' hj, inv_up hf' hj hu, inv_up (pn_turn hf') (by omega) ((up_turn hf' (by omega)).2 (by rw [show n - 2 - (n - 2 - j) = j by omega]; exact hu)), ih]
theorem step_turn {F G : List (List Int)} (h : Step n F G) : Good n F → Step n (F.map (turnP n)) (G.map (turnP n)) := by
  induction h with
  | here post hi hu hd =>
    rename_i a b i
    intro g
    have e : n - 2 - (n - 2 - i) = i := by omega
    rw [List.map_cons, List.map_cons, List.map_cons, List.map_cons, turn_swapV g.hd hi, turn_swapAt g.tl.hd hi]
    exact .here _ (by omega) ((up_turn g.hd (by omega)).2 (by rw [e]; exact hu)) ((dn_turn g.tl.hd (by omega)).2 (by rw [e]; exact hd))
  | next x h ih => exact fun g => .next _ (ih g.tl)
theorem good_turn {F : List (List Int)} (h : Good n F) : Good n (F.map (turnP n)) := fun x hx => by
  obtain ⟨y, hy, rfl⟩ := List.mem_map.1 hx
  exact pn_turn (h y hy)
theorem map_turn_turn {F : List (List Int)} (h : Good n F) : (F.map (turnP n)).map (turnP n) = F := by
  rw [List.map_map]
  have : ∀ x ∈ F, (turnP n ∘ turnP n) x = x := fun x hx => turn_turn (h x hx)
  rw [List.map_congr_left this, List.map_id']
theorem compl_turn (hf' : Pn n f) (hg : Pn n g) (e : thenL f g = hf n) : thenL g (turnP n f) = hf n := by
  refine ext_nth (by rw [thenL_length, hg.len, hf_length]) fun p hp => ?_
  rw [thenL_length, hg.len] at hp
  obtain ⟨q, hq, e1, -⟩ := hit hf' hp
  have h1 := congrArg (fun l => nth l q) e
  rw [nth_thenL _ _ _ (by rw [hf'.len]; exact hq), nth_hf hq, e1, Int.toNat_natCast] at h1
  rw [nth_thenL _ _ _ (by rw [hg.len]; exact hp), h1, nth_hf hp, show ((n : Int) - 1 - (q : Int)).toNat = n - 1 - q by omega, nth_turn hf'.len (by omega), show n - 1 - (n - 1 - q) = q by omega, e1]
/-- The half twist passes a factor. -/
theorem half_pass (hn : n ≤ 1000) (hf' : Pn n f) : Reach n [f, hf n] [hf n, turnP n f] := by
  obtain ⟨g, hg, e, hi⟩ := compl hn f hf'
  have e2 := compl_turn hf' hg e
  have ht := pn_turn hf'
  have it := inv_turn hn f hf'
  have r1 : Reach n [f, g, turnP n f] [f, hf n, iota n] := by
    have := rp hn hg (turnP n f) ht (by rw [e2, it]; omega)
    rw [e2] at this
    exact this.cons f
  have r2 : Reach n [f, g, turnP n f] [hf n, turnP n f, iota n] := by
    have s1 := (rp hn hf' g hg (by rw [e]; omega)).post [turnP n f]
    rw [e] at s1
    have s2 := (rp hn (pn_iota hn) (turnP n f) ht (by rw [iota_then ht, inv_iota]; omega)).cons (hf n)
    rw [iota_then ht] at s2
    exact s1.trans s2
  have gd : Good n [f, g, turnP n f] := .cons hf' (.cons hg (.cons ht (good_nil n)))
  have t : Tight n [hf n, turnP n f, iota n] := tight_hf hn (tight_iota (T := [_]) (tight_one _))
  exact reach_strip (F := [f, hf n]) (T := [hf n, turnP n f]) (same_end gd r1 r2 t)
theorem half_front (hn : n ≤ 1000) (F : List (List Int)) : Good n F → Reach n (F ++ [hf n]) (hf n :: F.map (turnP n)) := by
  induction F with
  | nil => intro _; exact .refl _
  | cons x F ih =>
    intro g
    exact ((ih g.tl).cons x).trans ((half_pass hn g.hd).post (F.map (turnP n)))
end

end Go.Proofs.Ytnmklkjlcpgjmaa

namespace Go.Proofs.Ytnmklkjlcpgjmaa
open Go.RowKit Go.Sl

/-- One letter onto the stack (its top is the list's head). -/
def psh (s : List Int) (x : Int) : List Int :=
  match s with
  | [] => [x]
  | y :: t => if y = -x then t else x :: y :: t
def act (s xs : List Int) : List Int := xs.foldl psh s
def redL (xs : List Int) : List Int := (act [] xs).reverse
def invL (xs : List Int) : List Int := (xs.map (- ·)).reverse
/-- No letter beside its inverse. -/
def Rd : List Int → Prop
  | [] => True
  | [_] => True
  | y :: z :: t => z ≠ -y ∧ Rd (z :: t)

theorem Rd.tail {y : Int} {t : List Int} (h : Rd (y :: t)) : Rd t := by
  cases t with
  | nil => trivial
  | cons z t => exact h.2
theorem rd_nil : Rd [] := trivial
theorem psh_rd {s : List Int} (h : Rd s) (x : Int) : Rd (psh s x) := by
  cases s with
  | nil => trivial
  | cons y t =>
    rw [psh]
    split
    · exact h.tail
    · rename_i hn; exact ⟨hn, h⟩
theorem psh_psh {s : List Int} (h : Rd s) (x : Int) : psh (psh s x) (-x) = s := by
  cases s with
  | nil => simp [psh]
  | cons y t =>
    by_cases hy : y = -x
    · subst hy
      rw [psh, if_pos rfl]
      cases t with
      | nil => rfl
      | cons z t => rw [psh, if_neg h.1]
    · rw [psh, if_neg hy, psh, if_pos (by omega)]
theorem act_append (s xs ys : List Int) : act s (xs ++ ys) = act (act s xs) ys := List.foldl_append
theorem act_snoc (s xs : List Int) (x : Int) : act s (xs ++ [x]) = psh (act s xs) x := by rw [act_append]; rfl
theorem act_rd {s : List Int} (h : Rd s) (xs : List Int) : Rd (act s xs) := by
  induction xs generalizing s with
  | nil => exact h
  | cons x xs ih => exact ih (psh_rd h x)
theorem act_invL {s : List Int} (h : Rd s) (xs : List Int) : act (act s xs) (invL xs) = s := by
  induction xs generalizing s with
  | nil => rfl
  | cons x xs ih =>
    have e : invL (x :: xs) = invL xs ++ [-x] := by simp [invL]
    rw [e, act_snoc]
    have := ih (psh_rd h x)
    rw [show act s (x :: xs) = act (psh s x) xs from rfl, this, psh_psh h]
theorem invL_invL (xs : List Int) : invL (invL xs) = xs := by
  simp [invL, List.map_reverse, Function.comp_def]
theorem psh_length (s : List Int) (x : Int) : (psh s x).length ≤ s.length + 1 := by
  cases s with
  | nil => simp [psh]
  | cons y t => rw [psh]; split <;> simp only [List.length_cons] <;> omega
theorem act_length (s xs : List Int) : (act s xs).length ≤ s.length + xs.length := by
  induction xs generalizing s with
  | nil => simp [act]
  | cons x xs ih => have h1 := ih (psh s x); have h2 := psh_length s x; simp only [List.length_cons]; show (act (psh s x) xs).length ≤ _; omega
theorem redL_length (xs : List Int) : (redL xs).length ≤ xs.length := by have := act_length [] xs; simpa [redL] using this
theorem psh_mem {s : List Int} {x y : Int} (h : y ∈ psh s x) : y ∈ s ∨ y = x := by
  cases s with
  | nil => simp [psh] at h; exact .inr h
  | cons z t =>
    rw [psh] at h
    split at h
    · exact .inl (List.mem_cons_of_mem _ h)
    · rcases List.mem_cons.1 h with h | h
      · exact .inr h
      · exact .inl h
theorem act_mem {s xs : List Int} {y : Int} (h : y ∈ act s xs) : y ∈ s ∨ y ∈ xs := by
  induction xs generalizing s with
  | nil => exact .inl h
  | cons x xs ih =>
    rcases ih (s := psh s x) h with h' | h'
    · rcases psh_mem h' with h'' | h''
      · exact .inl h''
      · exact .inr (by simp [h''])
    · exact .inr (List.mem_cons_of_mem _ h')
theorem redL_mem {xs : List Int} {y : Int} (h : y ∈ redL xs) : y ∈ xs := by
  rw [redL, List.mem_reverse] at h
  rcases act_mem h with h' | h'
  · cases h'
  · exact h'

end Go.Proofs.Ytnmklkjlcpgjmaa

namespace Go.Proofs.Ytnmklkjlcpgjmaa
open Go.RowKit Go.Sl

def nthv (vs : List Value) (i : Nat) : Value := vs.getD i undef
def nthr (xss : List (List Int)) (i : Nat) : List Int := xss.getD i []
theorem nthv_lt {vs : List Value} {i : Nat} (h : i < vs.length) : nthv vs i = vs[i] := by simp [nthv, h]
theorem nthr_lt {xss : List (List Int)} {i : Nat} (h : i < xss.length) : nthr xss i = xss[i] := by simp [nthr, h]
theorem nthr_mem {xss : List (List Int)} {i : Nat} (h : i < xss.length) : nthr xss i ∈ xss := by rw [nthr_lt h]; exact List.getElem_mem h

/-- The slice v of slices holds the values vs, which read as the lists xss. -/
def RowsV (w : World) (v : Value) (vs : List Value) (xss : List (List Int)) : Prop := Sl w v 1 vs ∧ vs.length = xss.length ∧ ∀ i, i < xss.length → Ints w (nthv vs i) (nthr xss i)
def Rows2 (w : World) (v : Value) (xss : List (List Int)) : Prop := ∃ vs, RowsV w v vs xss

section
variable {w w' : World} {v : Value} {vs : List Value} {xss : List (List Int)} {B : Nat}
theorem RowsV.isSl (h : RowsV w v vs xss) : IsSl v := h.1.1
theorem RowsV.len (h : RowsV w v vs xss) : vlen v = xss.length := by have := h.1.2.1; rw [h.2.1] at this; omega
theorem RowsV.cell (h : RowsV w v vs xss) {i : Nat} (hi : i < xss.length) : w.cell? (vat v i) = some (nthv vs i) := by
  have := Sl.cell h.1 (j := i) (by rw [h.2.1]; exact hi)
  rw [this, nthv_lt (by rw [h.2.1]; exact hi)]
theorem RowsV.row (h : RowsV w v vs xss) {i : Nat} (hi : i < xss.length) : Ints w (nthv vs i) (nthr xss i) := h.2.2 i hi
theorem RowsV.below (h : RowsV w v vs xss) (hb : Below w.heap.size w w') : RowsV w' v vs xss := ⟨h.1.below hb, h.2.1, fun i hi => (h.2.2 i hi).below hb⟩
theorem RowsV.alloc (h : RowsV w v vs xss) (o : Obj) : RowsV (w.alloc o) v vs xss := h.below ((Below.refl _ _).alloc (Nat.le_refl _) o)
theorem Rows2.isSl (h : Rows2 w v xss) : IsSl v := h.choose_spec.isSl
theorem Rows2.len (h : Rows2 w v xss) : vlen v = xss.length := h.choose_spec.len
theorem Rows2.below (h : Rows2 w v xss) (hb : Below w.heap.size w w') : Rows2 w' v xss := let ⟨vs, h⟩ := h; ⟨vs, h.below hb⟩
/-- The call's own slice of slices: its rows are read, it may be appended to. -/
def OwnR (w : World) (B : Nat) (v : Value) (xss : List (List Int)) : Prop := ∃ vs, Own w B 22 1 v vs ∧ vs.length = xss.length ∧ ∀ i, i < xss.length → Ints w (nthv vs i) (nthr xss i)
theorem OwnR.rows (h : OwnR w B v xss) : Rows2 w v xss := let ⟨vs, a, b, c⟩ := h; ⟨vs, a.sl, b, c⟩
theorem OwnR.isSl (h : OwnR w B v xss) : IsSl v := h.rows.isSl
theorem OwnR.len (h : OwnR w B v xss) : vlen v = xss.length := h.rows.len
theorem OwnR.lt (h : OwnR w B v xss) : ∀ k, row v = some k → B ≤ k ∧ k < w.heap.size := let ⟨_, a, _, _⟩ := h; a.lt
theorem OwnR.below (h : OwnR w B v xss) (hb : Below w.heap.size w w') : OwnR w' B v xss := let ⟨vs, a, b, c⟩ := h; ⟨vs, a.below hb, b, fun i hi => (c i hi).below hb⟩
theorem OwnR.low (h : OwnR w B v xss) {B' : Nat} (hB : B' ≤ B) : OwnR w B' v xss := let ⟨vs, a, b, c⟩ := h; ⟨vs, a.low hB, b, c⟩
/-- No row lies in the slice's own block. -/
def OwnR.apart (w : World) (B : Nat) (v : Value) (xss : List (List Int)) : Prop := ∃ vs, Own w B 22 1 v vs ∧ vs.length = xss.length ∧ (∀ i, i < xss.length → Ints w (nthv vs i) (nthr xss i)) ∧ ∀ i, i < xss.length → 0 < (nthr xss i).length → row v ≠ some (vblk (nthv vs i))
theorem OwnR.apart.own (h : OwnR.apart w B v xss) : OwnR w B v xss := let ⟨vs, a, b, c, _⟩ := h; ⟨vs, a, b, c⟩
theorem OwnR.apart.below (h : OwnR.apart w B v xss) (hb : Below w.heap.size w w') : OwnR.apart w' B v xss := let ⟨vs, a, b, c, d⟩ := h; ⟨vs, a.below hb, b, fun i hi => (c i hi).below hb, d⟩
end

theorem Ints.keep {w w' : World} {v : Value} {xs : List Int} (h : Ints w v xs) {r : Option Nat} (hg : w.grownBy w' r) (hr : 0 < xs.length → r ≠ some (vblk v)) : Ints w' v xs := by
  rcases Nat.eq_zero_or_pos xs.length with h0 | h0
  · obtain rfl := List.eq_nil_of_length_eq_zero h0
    exact ⟨h.1, h.2.1, by simp⟩
  · exact h.grown hg fun k hk e => hr h0 (by rw [hk, e])
end Go.Proofs.Ytnmklkjlcpgjmaa

namespace Go.Proofs.Ytnmklkjlcpgjmaa
open Go.RowKit Go.Sl

theorem rd_iff (l : List Int) : Rd l ↔ ∀ i, i + 1 < l.length → nth l (i + 1) ≠ -(nth l i) := by
  induction l with
  | nil => exact ⟨fun _ i h => by simp at h, fun _ => trivial⟩
  | cons x t ih =>
    cases t with
    | nil => exact ⟨fun _ i h => by simp at h, fun _ => trivial⟩
    | cons y t =>
      constructor
      · rintro ⟨h1, h2⟩ i hi
        cases i with
        | zero => simpa [nth] using h1
        | succ i =>
          have := ih.1 h2 i (by simpa using hi)
          simpa [nth] using this
      · intro h
        refine ⟨by simpa [nth] using h 0 (by simp), ih.2 fun i hi => ?_⟩
        have := h (i + 1) (by simpa using hi)
        simpa [nth] using this
theorem rd_mid {a b : List Int} {y x : Int} (h : Rd (a ++ y :: x :: b)) : x ≠ -y := by
  induction a with
  | nil => exact h.1
  | cons z a ih => exact ih (Rd.tail h)
theorem act_rd_append (l : List Int) : ∀ s, Rd (s.reverse ++ l) → act s l = l.reverse ++ s := by
  induction l with
  | nil => intro s _; rfl
  | cons x l ih =>
    intro s h
    have hp : psh s x = x :: s := by
      cases s with
      | nil => rfl
      | cons y t =>
        rw [psh, if_neg]
        intro e
        rw [List.reverse_cons, List.append_assoc] at h
        exact rd_mid h (by omega)
    show act (psh s x) l = _
    rw [hp, ih (x :: s) (by rw [List.reverse_cons, List.append_assoc]; exact h)]
    simp
theorem redL_of_rd {l : List Int} (h : Rd l) : redL l = l := by
  rw [redL, act_rd_append l [] (by simpa using h)]; simp
theorem nth_append (a b : List Int) (i : Nat) : nth (a ++ b) i = if i < a.length then nth a i else nth b (i - a.length) := by
  unfold nth
  split
  · rename_i h; simp [List.getElem?_append, h]
  · rename_i h; simp [List.getElem?_append, h]
theorem rd_append {a b : List Int} (ha : a ≠ []) (hb : b ≠ []) : Rd (a ++ b) ↔ Rd a ∧ Rd b ∧ nth b 0 ≠ -(nth a (a.length - 1)) := by
  have la := List.length_pos_iff.2 ha
  have lb := List.length_pos_iff.2 hb
  rw [rd_iff, rd_iff, rd_iff]
  constructor
  · intro h
    refine ⟨fun i hi => ?_, fun i hi => ?_, ?_⟩
    · have := h i (by rw [List.length_append]; omega)
      rwa [nth_append, if_pos hi, nth_append, if_pos (by omega)] at this
    · have := h (a.length + i) (by rw [List.length_append]; omega)
      rwa [nth_append, if_neg (by omega), nth_append, if_neg (by omega), show a.length + i + 1 - a.length = i + 1 by omega, show a.length + i - a.length = i by omega] at this
    · have := h (a.length - 1) (by rw [List.length_append]; omega)
      rwa [nth_append, if_neg (by omega), nth_append, if_pos (by omega), show a.length - 1 + 1 - a.length = 0 by omega] at this
  · rintro ⟨h1, h2, h3⟩ i hi
    rw [List.length_append] at hi
    rw [nth_append, nth_append]
    rcases Nat.lt_trichotomy (i + 1) a.length with h | h | h
    · rw [if_pos h, if_pos (by omega)]; exact h1 i h
    · rw [if_neg (by omega), if_pos (by omega), show i + 1 - a.length = 0 by omega, show i = a.length - 1 by omega]; exact h3
    · rw [if_neg (by omega), if_neg (by omega), show i + 1 - a.length = (i - a.length) + 1 by omega]; exact h2 _ (by omega)

structure Strip (c : List Int) (n : Nat) : Prop where
  le : 2 * n ≤ c.length
  off : ∀ i, i < n → nth c i = -(nth c (c.length - 1 - i))
  stop : c.length < 2 * n + 2 ∨ nth c n ≠ -(nth c (c.length - 1 - n))
theorem Strip.unique {c : List Int} {m n : Nat} (h : Strip c m) (k : Strip c n) : m = n := by
  rcases Nat.lt_trichotomy m n with hh | hh | hh
  · have h1 := k.le
    rcases h.stop with h2 | h2
    · omega
    · exact absurd (k.off m hh) h2
  · exact hh
  · have h1 := h.le
    rcases k.stop with h2 | h2
    · omega
    · exact absurd (h.off n hh) h2
/-- A word several times. -/
def rep (d : List Int) (j : Nat) : List Int := (List.replicate j d).flatten
theorem act_cancel {s : List Int} (h : Rd s) (u : List Int) : act (act s (invL u)) u = s := by
  have := act_invL h (invL u)
  rwa [invL_invL] at this
theorem redL_cancel (a u b : List Int) : redL (a ++ invL u ++ (u ++ b)) = redL (a ++ b) := by
  have : act [] (a ++ invL u ++ (u ++ b)) = act [] (a ++ b) := by
    rw [act_append, act_append, act_append, act_cancel (act_rd rd_nil _), act_append]
  exact congrArg List.reverse this
/-- The element at a place around the word. -/
def cat (e : List Int) (i : Nat) : Int := nth e (i % e.length)
def Turns (e : List Int) (k : Nat) : Prop := ∀ i, cat e (i + k) = cat e i
theorem Turns.mul {e : List Int} {k : Nat} (h : Turns e k) (q : Nat) : Turns e (k * q) := by
  induction q with
  | zero => intro i; rfl
  | succ q ih => intro i; rw [Nat.mul_succ, ← Nat.add_assoc, h, ih]
def Cond (e : List Int) (k : Nat) : Prop := e.length % k = 0 ∧ e.drop (k % e.length) ++ e.take (k % e.length) = e
structure IsRoot (e : List Int) (k : Nat) : Prop where
  pos : 0 < k
  le : k ≤ e.length
  cond : Cond e k
  least : ∀ k', 0 < k' → k' < k → ¬ Cond e k'
theorem IsRoot.unique {e : List Int} {k k' : Nat} (h : IsRoot e k) (g : IsRoot e k') : k = k' := by
  rcases Nat.lt_trichotomy k k' with h1 | h1 | h1
  · exact absurd h.cond (g.least k h.pos h1)
  · exact h1
  · exact absurd g.cond (h.least k' g.pos h1)
end Go.Proofs.Ytnmklkjlcpgjmaa

namespace Go.Proofs.Ytnmklkjlcpgjmaa
open Go.RowKit Go.Sl

/-- Two sides of a relation. -/
def sidesL (i k : Int) : List Int × List Int :=
  if i - k = 1 ∨ k - i = 1 then ([i, k, i], [k, i, k]) else if i = k then ([i, -i], []) else ([i, -k], [-k, i])
end Go.Proofs.Ytnmklkjlcpgjmaa

namespace Go.Proofs.Ytnmklkjlcpgjmaa
open Go.RowKit Go.Sl

abbrev St := Int × List (List Int)
inductive Eqv (n : Nat) : St → St → Prop
  | refl (s : St) : Eqv n s s
  | symm {s t : St} (h : Eqv n s t) : Eqv n t s
  | trans {s t u : St} (h : Eqv n s t) (k : Eqv n t u) : Eqv n s u
  | step (k : Int) {F G : List (List Int)} (g : Good n F) (h : Step n F G) : Eqv n (k, F) (k, G)
  | trail (k : Int) {F : List (List Int)} (g : Good n F) : Eqv n (k, F ++ [iota n]) (k, F)
  | half (k : Int) {F : List (List Int)} (g : Good n F) : Eqv n (k, hf n :: F) (k + 1, F)

section
variable {n : Nat}
theorem good_one (_hn : n ≤ 1000) {a : List Int} (h : Pn n a) : Good n [a] := .cons h (good_nil n)
theorem eqv_reach {F G : List (List Int)} (k : Int) (h : Reach n F G) : Good n F → Eqv n (k, F) (k, G) := by
  induction h with
  | refl F => exact fun _ => .refl _
  | head h _ ih => exact fun g => .trans (.step k g h) (ih (h.good g))
theorem eqv_good (hn : n ≤ 1000) {s t : St} (h : Eqv n s t) : Good n s.2 ↔ Good n t.2 := by
  induction h with
  | refl => exact Iff.rfl
  | symm _ ih => exact ih.symm
  | trans _ _ ih1 ih2 => exact ih1.trans ih2
  | step k g h => exact ⟨fun _ => h.good g, fun _ => g⟩
  | trail k g => exact ⟨fun _ => g, fun _ => g.app (good_one hn (pn_iota hn))⟩
  | half k g => exact ⟨fun _ => g, fun _ => .cons (pn_hf hn) g⟩

/-- Without half twists and identities. -/
def strip (n : Nat) (k : Int) (T : List (List Int)) : St := (k + T.count (hf n), T.filter fun p => decide (p ≠ hf n ∧ p ≠ iota n))
def Cn (n : Nat) (s c : St) : Prop := Good n s.2 ∧ ∃ T, Reach n s.2 T ∧ Tight n T ∧ c = strip n s.1 T
theorem cn_exists {s : St} (g : Good n s.2) : ∃ c, Cn n s c := by
  obtain ⟨T, h, t⟩ := exists_tight (n := n) _ s.2 (Nat.le_refl _) g
  exact ⟨_, g, T, h, t, rfl⟩
theorem cn_unique {s c d : St} (h : Cn n s c) (k : Cn n s d) : c = d := by
  obtain ⟨g, T, h1, h2, rfl⟩ := h
  obtain ⟨_, S, k1, k2, rfl⟩ := k
  rw [unique _ _ (Nat.le_refl _) g T S h1 h2 k1 k2]
theorem hf_ne_iota (h2 : 2 ≤ n) : hf n ≠ iota n := fun e => by
  have := congrArg (fun l => nth l 0) e
  rw [nth_hf (by omega), nth_iota _ _ (by omega)] at this
  omega
theorem strip_iota (h2 : 2 ≤ n) (k : Int) (T : List (List Int)) : strip n k (T ++ [iota n]) = strip n k T := by
  unfold strip
  have h1 : (T ++ [iota n]).count (hf n) = T.count (hf n) := by
    rw [List.count_append, List.count_cons_of_ne (fun e => hf_ne_iota h2 e.symm)]; simp
  rw [h1, List.filter_append]
  simp
theorem strip_hf (k : Int) (T : List (List Int)) : strip n k (hf n :: T) = strip n (k + 1) T := by
  unfold strip
  rw [List.count_cons_self, List.filter_cons]
  simp; omega
theorem eqv_cn (hn : n ≤ 1000) (h2 : 2 ≤ n) {s t : St} (h : Eqv n s t) : ∀ c, Cn n s c ↔ Cn n t c := by
  induction h with
  | refl => exact fun _ => Iff.rfl
  | symm _ ih => exact fun c => (ih c).symm
  | trans _ _ ih1 ih2 => exact fun c => (ih1 c).trans (ih2 c)
  | step k g h =>
    intro c
    constructor
    · rintro ⟨_, T, r, t, e⟩; exact ⟨h.good g, T, same_end g (.one h) r t, t, e⟩
    · rintro ⟨_, T, r, t, e⟩; exact ⟨g, T, .head h r, t, e⟩
  | trail k g =>
    rename_i F
    intro c
    obtain ⟨T, r, t⟩ := exists_tight (n := n) _ F (Nat.le_refl _) g
    have g' := g.app (good_one hn (pn_iota hn))
    have c1 : Cn n (k, F) (strip n k T) := ⟨g, T, r, t, rfl⟩
    have c2 : Cn n (k, F ++ [iota n]) (strip n k T) := ⟨g', T ++ [iota n], r.post _, tight_iota t, (strip_iota h2 k T).symm⟩
    exact ⟨fun h => by rw [cn_unique h c2]; exact c1, fun h => by rw [cn_unique h c1]; exact c2⟩
  | half k g =>
    rename_i F
    intro c
    obtain ⟨T, r, t⟩ := exists_tight (n := n) _ F (Nat.le_refl _) g
    have c1 : Cn n (k + 1, F) (strip n (k + 1) T) := ⟨g, T, r, t, rfl⟩
    have c2 : Cn n (k, hf n :: F) (strip n (k + 1) T) := ⟨.cons (pn_hf hn) g, hf n :: T, r.cons _, tight_hf hn t, (strip_hf k T).symm⟩
    exact ⟨fun h => by rw [cn_unique h c2]; exact c1, fun h => by rw [cn_unique h c1]; exact c2⟩

/-! A tight sequence begins with its half twists, and ends with its identities. -/
theorem tight_lead (hn : n ≤ 1000) {a : List Int} {T : List (List Int)} (g : Good n (a :: T)) (t : Tight n (a :: T)) (h : a ≠ hf n) : hf n ∉ T := by
  induction T generalizing a with
  | nil => simp
  | cons b T ih =>
    have hb : b ≠ hf n := fun e => by
      subst e
      exact h (hf_of hn g.hd fun i hi => t.pair i hi (dn_hf hi))
    intro hm
    rcases List.mem_cons.1 hm with hm | hm
    · exact hb hm.symm
    · exact ih g.tl t.tl hb hm
theorem tight_last (hn : n ≤ 1000) {T : List (List Int)} (g : Good n (iota n :: T)) (t : Tight n (iota n :: T)) : T = List.replicate T.length (iota n) := by
  induction T with
  | nil => rfl
  | cons b T ih =>
    have hb : b = iota n := by
      refine iota_of g.tl.hd fun i hi => ?_
      have : ¬ dn b i := fun hd => t.pair i hi hd (up_iota hn hi)
      -- no crossing at the beginning: none at all
      exact Classical.byContradiction fun hu => by
        have hall : ∀ i, i + 1 < n → up (backL b) i := fun i hi => by
          unfold up
          rw [back_back g.tl.hd]
          exact (dn_or g.tl.hd hi).resolve_left (fun hd => t.pair i hi hd (up_iota hn hi))
        have e := iota_of g.tl.hd.back hall
        unfold up at hu
        rw [e, nth_iota _ _ hi, nth_iota _ _ (by omega)] at hu
        omega
    subst hb
    have := ih g.tl t.tl
    rw [List.length_cons, List.replicate_succ, ← this]
theorem eqv_iotas {F : List (List Int)} (hn : n ≤ 1000) (g : Good n F) (k : Int) : ∀ m, Eqv n (k, F ++ List.replicate m (iota n)) (k, F) := by
  intro m
  induction m with
  | zero => simp; exact .refl _
  | succ m ih =>
    rw [List.replicate_succ', ← List.append_assoc]
    refine .trans (.trail k (g.app fun x hx => ?_)) ih
    rw [List.eq_of_mem_replicate hx]; exact pn_iota hn
theorem tight_ones (hn : n ≤ 1000) : ∀ T : List (List Int), Good n T → Tight n T → ∃ U m, T = U ++ List.replicate m (iota n) ∧ iota n ∉ U := by
  intro T
  induction T with
  | nil => intro _ _; exact ⟨[], 0, rfl, by simp⟩
  | cons a T ih =>
    intro g t
    by_cases e : a = iota n
    · subst e
      have := tight_last hn g t
      exact ⟨[], T.length + 1, by rw [List.nil_append, List.replicate_succ, ← this], by simp⟩
    · obtain ⟨U, m, h1, h2⟩ := ih g.tl t.tl
      exact ⟨a :: U, m, by rw [h1]; rfl, fun hm => by
        rcases List.mem_cons.1 hm with h | h
        · exact e h.symm
        · exact h2 h⟩
theorem eqv_strip (hn : n ≤ 1000) (_h2 : 2 ≤ n) : ∀ (T : List (List Int)) (k : Int), Good n T → Tight n T → Eqv n (k, T) (strip n k T) := by
  intro T
  induction T with
  | nil => intro k _ _; unfold strip; simp; exact .refl _
  | cons a T ih =>
    intro k g t
    by_cases e : a = hf n
    · subst e
      rw [strip_hf]
      exact .trans (.half k g.tl) (ih (k + 1) g.tl t.tl)
    · have hno := tight_lead hn g t e
      obtain ⟨U, m, h1, h3⟩ := tight_ones hn (a :: T) g t
      have hc : (a :: T).count (hf n) = 0 := List.count_eq_zero.2 (fun hm => by
        rcases List.mem_cons.1 hm with h | h
        · exact e h.symm
        · exact hno h)
      have hU : Good n U := fun x hx => g x (by rw [h1]; simp [hx])
      have hf' : (a :: T).filter (fun p => decide (p ≠ hf n ∧ p ≠ iota n)) = U := by
        rw [h1, List.filter_append, List.filter_eq_self.2, List.filter_eq_nil_iff.2, List.append_nil]
        · intro x hx
          rw [List.eq_of_mem_replicate hx]; simp
        · intro x hx
          simp only [decide_eq_true_eq]
          refine ⟨fun hx2 => ?_, fun hx2 => h3 (hx2 ▸ hx)⟩
          have : x ∈ a :: T := by rw [h1]; simp [hx]
          rw [hx2] at this
          exact (List.count_eq_zero.1 hc) this
      unfold strip
      rw [hc, hf', h1]
      have := eqv_iotas hn hU k m
      simpa using this
theorem cn_eqv (hn : n ≤ 1000) (h2 : 2 ≤ n) {s c : St} (h : Cn n s c) : Eqv n s c := by
  obtain ⟨g, T, r, t, rfl⟩ := h
  exact .trans (eqv_reach s.1 r g) (eqv_strip hn h2 T s.1 (r.good g) t)

/-! Letters. -/
def dgP (n i : Nat) : List Int := swapV (hf n) i
theorem pn_dg {i : Nat} (hn : n ≤ 1000) (hi : i + 1 < n) : Pn n (dgP n i) := (pn_hf hn).swapV hi
def mulS (n : Nat) (s : St) (x : Int) : St := if 0 < x then (s.1, s.2 ++ [sgP n (x.natAbs - 1)]) else (s.1 - 1, s.2.map (turnP n) ++ [dgP n (x.natAbs - 1)])
/-- A letter of n strands. -/
def Lt (n : Nat) (x : Int) : Prop := x ≠ 0 ∧ x.natAbs < n
theorem mulS_good (hn : n ≤ 1000) {s : St} {x : Int} (hx : Lt n x) (g : Good n s.2) : Good n (mulS n s x).2 := by
  obtain ⟨h0, h1⟩ := hx
  unfold mulS
  split
  · exact g.app (good_one hn (pn_sg hn (by omega)))
  · exact (good_turn g).app (good_one hn (pn_dg hn (by omega)))
theorem eqv_mul (hn : n ≤ 1000) {x : Int} (hx : Lt n x) {s t : St} (h : Eqv n s t) : Eqv n (mulS n s x) (mulS n t x) := by
  obtain ⟨h0, h1⟩ := hx
  have hi : x.natAbs - 1 + 1 < n := by omega
  induction h with
  | refl => exact .refl _
  | symm _ ih => exact .symm ih
  | trans _ _ ih1 ih2 => exact .trans ih1 ih2
  | step k g h =>
    unfold mulS
    split
    · exact .step k (g.app (good_one hn (pn_sg hn hi))) (h.post _)
    · exact .step _ ((good_turn g).app (good_one hn (pn_dg hn hi))) ((step_turn h g).post _)
  | trail k g =>
    rename_i F
    have go : ∀ (k : Int) {F : List (List Int)} (d : List Int), Good n F → Pn n d → Eqv n (k, F ++ [iota n] ++ [d]) (k, F ++ [d]) := by
      intro k F d g hd
      have r : Reach n ([iota n] ++ [d]) ([d] ++ [iota n]) := by
        have := rp hn (pn_iota hn) d hd (by rw [iota_then hd, inv_iota]; omega)
        rwa [iota_then hd] at this
      have r2 := r.pre F
      rw [← List.append_assoc, ← List.append_assoc] at r2
      exact .trans (eqv_reach k r2 ((g.app (good_one hn (pn_iota hn))).app (good_one hn hd))) (.trail k (g.app (good_one hn hd)))
    unfold mulS
    split
    · exact go k _ g (pn_sg hn hi)
    · simp only [List.map_append, List.map_cons, List.map_nil, turn_iota]
      exact go _ _ (good_turn g) (pn_dg hn hi)
  | half k g =>
    unfold mulS
    split
    · exact .half k (g.app (good_one hn (pn_sg hn hi)))
    · simp only [List.map_cons, turn_hf, List.cons_append]
      have := Eqv.half (n := n) (k - 1) ((good_turn g).app (good_one hn (pn_dg hn hi)))
      rwa [show k - 1 + 1 = k + 1 - 1 by omega] at this
def mulW (n : Nat) (s : St) (w : List Int) : St := w.foldl (mulS n) s
theorem mulW_append (s : St) (a b : List Int) : mulW n s (a ++ b) = mulW n (mulW n s a) b := by unfold mulW; rw [List.foldl_append]
theorem mulW_good (hn : n ≤ 1000) (w : List Int) : ∀ s : St, (∀ x ∈ w, Lt n x) → Good n s.2 → Good n (mulW n s w).2 := by
  induction w with
  | nil => exact fun _ _ g => g
  | cons x w ih => exact fun s h g => ih _ (fun y hy => h y (by simp [hy])) (mulS_good hn (h x (by simp)) g)
theorem eqv_mulW (hn : n ≤ 1000) (w : List Int) : ∀ {s t : St}, (∀ x ∈ w, Lt n x) → Eqv n s t → Eqv n (mulW n s w) (mulW n t w) := by
  induction w with
  | nil => exact fun _ h => h
  | cons x w ih => exact fun h k => ih (fun y hy => h y (by simp [hy])) (eqv_mul hn (h x (by simp)) k)

/-- A letter and its inverse. -/
theorem swapAt_hf {j : Nat} (hn : n ≤ 1000) (hj : j + 1 < n) : swapAt (hf n) j = swapV (hf n) (n - 2 - j) := by
  refine ext_nth (by simp [swapAt_length, swapV_length]) fun q hq => ?_
  rw [swapAt_length, hf_length] at hq
  rw [nsw (pn_hf hn) hj, nth_hf (swN_lt hj hq), nth_swapV _ _ _ (by rw [hf_length]; exact hq), nth_hf hq]
  unfold swN swV; grind
theorem half_end (hn : n ≤ 1000) {F : List (List Int)} (g : Good n F) (k : Int) : Eqv n (k, F ++ [hf n]) (k + 1, F.map (turnP n)) :=
  .trans (eqv_reach k (half_front hn F g) (g.app (good_one hn (pn_hf hn)))) (.half k (good_turn g))
theorem cancel (hn : n ≤ 1000) {x : Int} (hx : Lt n x) {s : St} (g : Good n s.2) : Eqv n (mulS n (mulS n s x) (-x)) s := by
  obtain ⟨h0, h1⟩ := hx
  obtain ⟨k, F⟩ := s
  have hi : x.natAbs - 1 + 1 < n := by omega
  have hit : n - 2 - (x.natAbs - 1) + 1 < n := by omega
  have gt := good_turn g
  have fin : Eqv n (k - 1, F.map (turnP n) ++ [hf n]) (k, F) := by
    have := half_end hn gt (k - 1)
    rwa [map_turn_turn g, show k - 1 + 1 = k by omega] at this
  have inA : ∀ {A : List (List Int)}, Good n A → Reach n A [hf n, iota n] → Eqv n (k - 1, F.map (turnP n) ++ A) (k, F) := by
    intro A gA r
    have r2 := r.pre (F.map (turnP n))
    refine .trans (eqv_reach (k - 1) r2 (gt.app gA)) ?_
    have : F.map (turnP n) ++ [hf n, iota n] = F.map (turnP n) ++ [hf n] ++ [iota n] := by simp
    rw [this]
    exact .trans (.trail _ (gt.app (good_one hn (pn_hf hn)))) fin
  by_cases hp : 0 < x
  · unfold mulS
    rw [if_pos hp, if_neg (by omega), Int.natAbs_neg]
    simp only [List.map_append, List.map_cons, List.map_nil, List.append_assoc, List.cons_append, List.nil_append]
    have ht : turnP n (sgP n (x.natAbs - 1)) = sgP n (n - 2 - (x.natAbs - 1)) := by
      unfold sgP; rw [turn_swapV (pn_iota hn) hi, turn_iota]
    rw [ht]
    have e1 : thenL (sgP n (n - 2 - (x.natAbs - 1))) (dgP n (x.natAbs - 1)) = hf n := by
      unfold dgP
      rw [thenL_swapV (pn_sg hn hit) (pn_hf hn)]
      have e2 : thenL (sgP n (n - 2 - (x.natAbs - 1))) (hf n) = swapV (hf n) (x.natAbs - 1) := by
        unfold sgP
        have h3 := thenL_swap (pn_iota hn) ((pn_hf hn).swapAt hit) hit
        rw [swapAt_swapAt _ _ (by rw [hf_length]; exact hit), iota_then ((pn_hf hn).swapAt hit), swapAt_hf hn hit] at h3
        rw [h3, show n - 2 - (n - 2 - (x.natAbs - 1)) = x.natAbs - 1 by omega]
      rw [e2, swapV_swapV]
    have r := rp hn (pn_sg hn hit) (dgP n (x.natAbs - 1)) (pn_dg hn hi) (by
      rw [e1, inv_sg hn hit]
      have := inv_hf_up hn hi
      unfold dgP; omega)
    rw [e1] at r
    exact inA (.cons (pn_sg hn hit) (good_one hn (pn_dg hn hi))) r
  · unfold mulS
    rw [if_neg hp, if_pos (by omega), Int.natAbs_neg]
    simp only [List.append_assoc, List.cons_append, List.nil_append]
    have r : Reach n [dgP n (x.natAbs - 1), sgP n (x.natAbs - 1)] [hf n, iota n] := by
      have hu : up (dgP n (x.natAbs - 1)) (x.natAbs - 1) := up_swapV (pn_hf hn) hi ((up_or (pn_hf hn) hi).resolve_left (not_up_hf hn hi))
      have := Step.here (n := n) (b := sgP n (x.natAbs - 1)) [] hi hu (dn_sg hi)
      rw [swapAt_sg hi] at this
      unfold dgP at this ⊢
      rw [swapV_swapV] at this
      exact .one this
    exact inA (.cons (pn_dg hn hi) (good_one hn (pn_sg hn hi))) r
theorem cancel' (hn : n ≤ 1000) {x : Int} (hx : Lt n x) {s : St} (g : Good n s.2) : Eqv n (mulS n (mulS n s (-x)) x) s := by
  have := cancel hn (x := -x) ⟨by have := hx.1; omega, by rw [Int.natAbs_neg]; exact hx.2⟩ g
  rwa [Int.neg_neg] at this

/-- A crossing added to a factor. -/
theorem add_one (_hn : n ≤ 1000) {a : List Int} {i : Nat} (_ha : Pn n a) (hi : i + 1 < n) (hu : up a i) : Reach n [a, sgP n i] [swapV a i, iota n] := by
  have := Step.here (n := n) (b := sgP n i) [] hi hu (dn_sg hi)
  rw [swapAt_sg hi] at this
  exact .one this
/-- Positive letters that are far apart. -/
theorem far_mul (hn : n ≤ 1000) {i j : Nat} (hi : i + 1 < n) (hj : j + 1 < n) (h : i + 1 < j ∨ j + 1 < i) {s : St} (g : Good n s.2) :
    Eqv n (mulW n s [(i : Int) + 1, (j : Int) + 1]) (mulW n s [(j : Int) + 1, (i : Int) + 1]) := by
  have one : ∀ i j : Nat, i + 1 < n → j + 1 < n → (i + 1 < j ∨ j + 1 < i) → Eqv n (mulW n s [(i : Int) + 1, (j : Int) + 1]) (s.1, s.2 ++ [swapV (sgP n i) j] ++ [iota n]) := by
    intro i j hi hj h
    have e1 : ((i : Int) + 1).natAbs - 1 = i := by omega
    have e2 : ((j : Int) + 1).natAbs - 1 = j := by omega
    simp only [mulW, List.foldl_cons, List.foldl_nil, mulS, e1, e2]
    rw [if_pos (by omega), if_pos (by omega)]
    have hu : up (sgP n i) j := (up_far (pn_iota hn) hi h).2 (up_iota hn hj)
    have r := (add_one hn (pn_sg hn hi) hj hu).pre s.2
    have := eqv_reach s.1 r (g.app (.cons (pn_sg hn hi) (good_one hn (pn_sg hn hj))))
    simpa using this
  refine .trans (one i j hi hj h) (.symm (.trans (one j i hj hi h.symm) ?_))
  unfold sgP
  rw [swapV_far h]
  exact .refl _
/-- Positive letters of neighbours. -/
theorem braid_mul (hn : n ≤ 1000) {i : Nat} (hi : i + 1 + 1 < n) {s : St} (g : Good n s.2) :
    Eqv n (mulW n s [(i : Int) + 1, (i : Int) + 1 + 1, (i : Int) + 1]) (mulW n s [(i : Int) + 1 + 1, (i : Int) + 1, (i : Int) + 1 + 1]) := by
  have h0 : i + 1 < n := by omega
  have hp := pn_iota hn
  obtain ⟨u1, u2, u3, u4⟩ := up_next hp hi (up_iota hn h0) (up_iota hn hi)
  have three : ∀ i j : Nat, i + 1 < n → j + 1 < n → up (sgP n i) j → up (swapV (sgP n i) j) i →
      Eqv n (mulW n s [(i : Int) + 1, (j : Int) + 1, (i : Int) + 1]) (s.1, s.2 ++ [swapV (swapV (sgP n i) j) i, iota n, iota n]) := by
    intro i j hi hj hu hu2
    have e1 : ((i : Int) + 1).natAbs - 1 = i := by omega
    have e2 : ((j : Int) + 1).natAbs - 1 = j := by omega
    simp only [mulW, List.foldl_cons, List.foldl_nil, mulS, e1, e2]
    rw [if_pos (by omega), if_pos (by omega)]
    have ps := pn_sg hn hi
    have r1 : Reach n [sgP n i, sgP n j, sgP n i] [swapV (sgP n i) j, iota n, sgP n i] := (add_one hn ps hj hu).post [sgP n i]
    have r2 : Reach n [swapV (sgP n i) j, iota n, sgP n i] [swapV (sgP n i) j, sgP n i, iota n] := by
      have := (rp hn hp (sgP n i) ps (by rw [iota_then ps, inv_iota]; omega)).cons (swapV (sgP n i) j)
      rwa [iota_then ps] at this
    have r3 : Reach n [swapV (sgP n i) j, sgP n i, iota n] [swapV (swapV (sgP n i) j) i, iota n, iota n] := (add_one hn (ps.swapV hj) hi hu2).post [iota n]
    have := eqv_reach s.1 ((r1.trans (r2.trans r3)).pre s.2) (g.app (.cons ps (.cons (pn_sg hn hj) (good_one hn ps))))
    simpa using this
  have c1 := three i (i + 1) h0 hi u1 u2
  have c2 := three (i + 1) i hi h0 u3 u4
  rw [show ((i + 1 : Nat) : Int) = (i : Int) + 1 by omega] at c1 c2
  refine .trans c1 (.symm (.trans c2 ?_))
  unfold sgP
  rw [← swapV_braid]
  exact .refl _
end

end Go.Proofs.Ytnmklkjlcpgjmaa

namespace Go.Proofs.Ytnmklkjlcpgjmaa
open Go.RowKit Go.Sl

section
variable {n : Nat} {a b c d g : List Int}
theorem left_at (_ha : Pn n a) (hg : Pn n g) (e : thenL g a = hf n) {q : Nat} (hq : q < n) : nth a (nth g q).toNat = (n : Int) - 1 - q := by
  have := congrArg (fun l => nth l q) e
  rwa [nth_thenL _ _ _ (by rw [hg.len]; exact hq), nth_hf hq] at this
theorem left_nth (ha : Pn n a) (hg : Pn n g) (e : thenL g a = hf n) {q : Nat} (hq : q < n) : nth g q = nth (backL a) (n - 1 - q) := by
  have h1 := left_at ha hg e hq
  have hr := hg.range hq
  have h2 := back_at ha (q := (nth g q).toNat) (by omega)
  rw [h1, show ((n : Int) - 1 - q).toNat = n - 1 - q by omega] at h2
  rw [h2]; omega
theorem left_back (ha : Pn n a) (hg : Pn n g) (e : thenL g a = hf n) {x : Nat} (hx : x < n) : nth (backL g) x = (n : Int) - 1 - nth a x := by
  obtain ⟨q, hq, e1, e2⟩ := hit hg hx
  have h1 := left_at ha hg e hq
  rw [e1, Int.toNat_natCast] at h1
  rw [e2, h1]; omega
theorem left_dn (ha : Pn n a) (hg : Pn n g) (e : thenL g a = hf n) {i : Nat} (hi : i + 1 < n) : dn g i ↔ up a (n - 2 - i) := by
  unfold dn up
  rw [left_nth ha hg e hi, left_nth ha hg e (show i < n by omega), show n - 1 - (i + 1) = n - 2 - i by omega, show n - 1 - i = n - 2 - i + 1 by omega]
theorem left_up (ha : Pn n a) (hg : Pn n g) (e : thenL g a = hf n) {i : Nat} (hi : i + 1 < n) : up g i ↔ dn a i := by
  unfold dn up
  rw [left_back ha hg e hi, left_back ha hg e (show i < n by omega)]; omega
theorem left_exists (hn : n ≤ 1000) (ha : Pn n a) : ∃ g, Pn n g ∧ thenL g a = hf n ∧ inv g + inv a = inv (hf n) := by
  obtain ⟨g, hg, e, hi⟩ := compl hn (turnP n a) (pn_turn ha)
  have h1 := compl_turn (pn_turn ha) hg e
  rw [turn_turn ha] at h1
  rw [inv_turn hn a ha] at hi
  exact ⟨g, hg, h1, by omega⟩
theorem tight_snoc : ∀ (X : List (List Int)), Tight n (X ++ [c]) → (∀ i, i + 1 < n → dn d i → ¬ up c i) → Tight n (X ++ [c, d])
  | [], _, k => tight_cons (tight_one d) k
  | [_x], h, k => tight_cons (tight_snoc [] h.tl k) h.pair
  | _x :: y :: X, h, k => tight_cons (tight_snoc (y :: X) h.tl k) h.pair
theorem tight_turn {F : List (List Int)} (g : Good n F) (t : Tight n F) : Tight n (F.map (turnP n)) := fun G s => by
  have h1 := step_turn s (good_turn g)
  rw [map_turn_turn g] at h1
  exact t _ h1
theorem turn_mem {F : List (List Int)} (g : Good n F) {x : List Int} (hx : turnP n x = x) (h : x ∉ F) : x ∉ F.map (turnP n) := fun hm => by
  obtain ⟨y, hy, e⟩ := List.mem_map.1 hm
  have h1 := turn_turn (g y hy)
  rw [e, hx] at h1
  exact h (h1 ▸ hy)

theorem iota_end (hn : n ≤ 1000) : ∀ F : List (List Int), Good n F → Reach n (iota n :: F) (F ++ [iota n])
  | [], _ => .refl _
  | a :: F, gd => by
    have r := rp hn (pn_iota hn) a gd.hd (by rw [iota_then gd.hd, inv_iota]; omega)
    rw [iota_then gd.hd] at r
    exact (r.post F).trans ((iota_end hn F gd.tl).cons a)

theorem inv_exists (hn : n ≤ 1000) (h2 : 2 ≤ n) : ∀ F : List (List Int), Good n F → Tight n F → hf n ∉ F → iota n ∉ F →
    ∃ B : List (List Int), B.length = F.length ∧ Good n B ∧ Tight n B ∧ hf n ∉ B ∧ iota n ∉ B ∧ Eqv n (-(F.length : Int), B ++ F) (0, []) ∧ ∀ a F', F = a :: F' → ∃ B' g, B = B' ++ [g] ∧ Pn n g ∧ thenL g a = hf n := by
  intro F
  induction F with
  | nil => intro _ _ _ _; exact ⟨[], rfl, good_nil n, tight_nil, by simp, by simp, .refl _, fun a F' e => by cases e⟩
  | cons a F ih =>
    intro gd t nh ni
    obtain ⟨B, bl, bg, bt, bh, bi, be, bs⟩ := ih gd.tl t.tl (fun h => nh (List.mem_cons_of_mem _ h)) (fun h => ni (List.mem_cons_of_mem _ h))
    obtain ⟨g, hg, e, hinv⟩ := left_exists hn gd.hd
    have gh : g ≠ hf n := fun e1 => by
      subst e1
      refine ni ?_
      have : a = iota n := iota_of gd.hd fun i hi => ?_
      · rw [this]; simp
      · have := (left_dn gd.hd (pn_hf hn) e (i := n - 2 - i) (by omega)).1 (dn_hf (by omega))
        rwa [show n - 2 - (n - 2 - i) = i by omega] at this
    have gi : g ≠ iota n := fun e1 => by
      subst e1
      rw [iota_then gd.hd] at e
      exact nh (by rw [e]; simp)
    have gB := good_turn bg
    refine ⟨B.map (turnP n) ++ [g], by simp [bl], gB.app (good_one hn hg), ?_, ?_, ?_, ?_, fun a' F' e' => ⟨B.map (turnP n), g, rfl, hg, by cases e'; exact e⟩⟩
    · cases F with
      | nil =>
        have : B = [] := List.eq_nil_of_length_eq_zero bl
        subst this
        exact tight_one g
      | cons b F' =>
        obtain ⟨B', gb, rfl, hgb, eb⟩ := bs b F' rfl
        rw [List.map_append, List.append_assoc]
        have ht := tight_turn bg bt
        rw [List.map_append] at ht
        refine tight_snoc _ ht fun i hi hd hu => ?_
        rw [up_turn hgb hi, left_up gd.tl.hd hgb eb (by omega)] at hu
        rw [left_dn gd.hd hg e hi] at hd
        exact t.pair (n - 2 - i) (by omega) hu hd
    · intro hm
      rcases List.mem_append.1 hm with h | h
      · exact turn_mem bg turn_hf bh h
      · simp at h; exact gh h.symm
    · intro hm
      rcases List.mem_append.1 hm with h | h
      · exact turn_mem bg turn_iota bi h
      · simp at h; exact gi h.symm
    · have r1 : Reach n [g, a] [hf n, iota n] := by
        have := rp hn hg a gd.hd (by rw [e]; omega)
        rwa [e] at this
      have r2 : Reach n (iota n :: F) (F ++ [iota n]) := iota_end hn F gd.tl
      have hG : Good n (B.map (turnP n) ++ (g :: a :: F)) := gB.app (.cons hg gd)
      have s1 : Reach n (B.map (turnP n) ++ (g :: a :: F)) (B.map (turnP n) ++ (hf n :: (F ++ [iota n]))) :=
        ((r1.post F).pre _).trans ((r2.cons (hf n)).pre _)
      have g2 : Good n (B.map (turnP n) ++ (hf n :: F)) := gB.app (.cons (pn_hf hn) gd.tl)
      have s2 : Reach n (B.map (turnP n) ++ (hf n :: F)) (hf n :: (B ++ F)) := by
        have := (half_front hn (B.map (turnP n)) gB).post F
        rw [map_turn_turn bg] at this
        simpa using this
      rw [List.append_assoc]
      refine .trans (eqv_reach _ s1 hG) ?_
      rw [show B.map (turnP n) ++ (hf n :: (F ++ [iota n])) = (B.map (turnP n) ++ (hf n :: F)) ++ [iota n] by simp]
      refine .trans (.trail _ g2) (.trans (eqv_reach _ s2 g2) (.trans (.half _ (bg.app gd.tl)) ?_))
      rw [show -((a :: F).length : Int) + 1 = -(F.length : Int) by simp; omega]
      exact be

theorem strip_is_tight (hn : n ≤ 1000) : ∀ (T : List (List Int)), Good n T → Tight n T → Tight n (T.filter fun p => decide (p ≠ hf n ∧ p ≠ iota n)) := by
  intro T
  induction T with
  | nil => intro _ t; exact t
  | cons a T ih =>
    intro g t
    by_cases e : a = hf n
    · rw [List.filter_cons_of_neg (by simp [e])]
      exact ih g.tl t.tl
    · have hno := tight_lead hn g t e
      obtain ⟨U, m, h1, h3⟩ := tight_ones hn (a :: T) g t
      have hc : hf n ∉ a :: T := fun hm => by
        rcases List.mem_cons.1 hm with h | h
        · exact e h.symm
        · exact hno h
      have hf' : (a :: T).filter (fun p => decide (p ≠ hf n ∧ p ≠ iota n)) = U := by
        rw [h1, List.filter_append, List.filter_eq_self.2, List.filter_eq_nil_iff.2, List.append_nil]
        · intro x hx
          rw [List.eq_of_mem_replicate hx]; simp
        · intro x hx
          simp only [decide_eq_true_eq]
          refine ⟨fun hx2 => ?_, fun hx2 => h3 (hx2 ▸ hx)⟩
          have : x ∈ a :: T := by rw [h1]; simp [hx]
          rw [hx2] at this
          exact hc this
      rw [hf']
      rw [h1] at t
      exact fun G s => t _ (s.post _)
/-- Turned k times. -/
def tauK (n : Nat) (k : Int) (G : List (List Int)) : List (List Int) := if k % 2 = 0 then G else G.map (turnP n)
theorem good_tauK {G : List (List Int)} (g : Good n G) (k : Int) : Good n (tauK n k G) := by unfold tauK; split; exact g; exact good_turn g
theorem tauK_succ {G : List (List Int)} (g : Good n G) (k : Int) : tauK n (k + 1) G = (tauK n k G).map (turnP n) := by
  unfold tauK
  by_cases h : k % 2 = 0
  · rw [if_pos h, if_neg (by omega)]
  · rw [if_neg h, if_pos (by omega), map_turn_turn g]
theorem tauK_pred {G : List (List Int)} (g : Good n G) (k : Int) : tauK n (k - 1) G = (tauK n k G).map (turnP n) := by
  have h1 := tauK_succ g (k - 1)
  rw [show k - 1 + 1 = k by omega] at h1
  rw [h1, map_turn_turn (good_tauK g _)]
/-- One form behind another. -/
def prodS (n : Nat) (s t : St) : St := (s.1 + t.1, tauK n t.1 s.2 ++ t.2)
theorem prodS_mul {s : St} (g : Good n s.2) (t : St) (x : Int) : prodS n s (mulS n t x) = mulS n (prodS n s t) x := by
  unfold prodS mulS
  split
  · simp
  · simp only [List.map_append, tauK_pred g, List.append_assoc, Prod.mk.injEq, and_true]
    omega
theorem prodS_mulW {s : St} (g : Good n s.2) (w : List Int) : ∀ t : St, prodS n s (mulW n t w) = mulW n (prodS n s t) w := by
  induction w with
  | nil => exact fun _ => rfl
  | cons x w ih =>
    intro t
    rw [show mulW n t (x :: w) = mulW n (mulS n t x) w from rfl, ih, prodS_mul g]
    rfl
theorem prodS_eqv (hn : n ≤ 1000) {s t u : St} (g : Good n s.2) (h : Eqv n t u) : Eqv n (prodS n s t) (prodS n s u) := by
  induction h with
  | refl => exact .refl _
  | symm _ ih => exact .symm ih
  | trans _ _ ih1 ih2 => exact .trans ih1 ih2
  | step k g1 h => exact eqv_reach _ ((Reach.one h).pre _) ((good_tauK g k).app g1)
  | trail k g1 =>
    rename_i F
    unfold prodS
    rw [← List.append_assoc]
    exact .trail _ ((good_tauK g k).app g1)
  | half k g1 =>
    rename_i F
    unfold prodS
    have gt := good_tauK g k
    have s2 : Reach n (tauK n k s.2 ++ (hf n :: F)) (hf n :: ((tauK n k s.2).map (turnP n) ++ F)) := by
      have := (half_front hn (tauK n k s.2) gt).post F
      simpa using this
    refine .trans (eqv_reach _ s2 (gt.app (.cons (pn_hf hn) g1))) ?_
    rw [tauK_succ g]
    have := Eqv.half (n := n) (s.1 + k) ((good_turn gt).app g1)
    rwa [show s.1 + k + 1 = s.1 + (k + 1) by omega] at this
theorem mulW_start (n : Nat) (s : St) (w : List Int) (g : Good n s.2) : mulW n s w = prodS n s (mulW n (0, []) w) := by
  rw [prodS_mulW g]
  simp [prodS, tauK]

/-- A word and its inverse. -/
def invW (w : List Int) : List Int := (w.map fun x => -x).reverse
theorem invW_lt {w : List Int} (h : ∀ x ∈ w, Lt n x) : ∀ x ∈ invW w, Lt n x := fun x hx => by
  simp only [invW, List.mem_reverse, List.mem_map] at hx
  obtain ⟨y, hy, rfl⟩ := hx
  have := h y hy
  unfold Lt at *
  omega
theorem mulW_inv (hn : n ≤ 1000) (w : List Int) : ∀ {s : St}, (∀ x ∈ w, Lt n x) → Good n s.2 → Eqv n (mulW n (mulW n s w) (invW w)) s := by
  induction w with
  | nil => exact fun _ _ => .refl _
  | cons x w ih =>
    intro s hw g
    have hx := hw x (by simp)
    have hr : ∀ y ∈ w, Lt n y := fun y hy => hw y (by simp [hy])
    have g1 := mulS_good hn hx g
    have e : invW (x :: w) = invW w ++ [-x] := by simp [invW]
    rw [e, mulW_append, show mulW n s (x :: w) = mulW n (mulS n s x) w from rfl]
    have hnx : Lt n (-x) := by unfold Lt at *; omega
    exact .trans (eqv_mulW hn [-x] (fun y hy => by simp at hy; subst hy; exact hnx) (ih hr g1)) (cancel hn hx g)
/-- The normal form of the inverse. -/
theorem inv_form (hn : n ≤ 1000) (h2 : 2 ≤ n) {w : List Int} (hw : ∀ x ∈ w, Lt n x) {k : Int} {F : List (List Int)} (h : Cn n (mulW n (0, []) w) (k, F)) :
    ∃ G, G.length = F.length ∧ Cn n (mulW n (0, []) (invW w)) (-k - F.length, G) := by
  have gw := mulW_good hn w (0, []) hw (good_nil n)
  have hE := cn_eqv hn h2 h
  obtain ⟨_, T, r, t, e⟩ := h
  have gT := r.good gw
  obtain ⟨e1, e2⟩ := Prod.mk.inj e
  have gF : Good n F := fun x hx => by rw [e2] at hx; exact gT x (List.mem_filter.1 hx).1
  have nh : hf n ∉ F := fun hm => by rw [e2] at hm; have := (List.mem_filter.1 hm).2; simp at this
  have ni : iota n ∉ F := fun hm => by rw [e2] at hm; have := (List.mem_filter.1 hm).2; simp at this
  have tF : Tight n F := by rw [e2]; exact strip_is_tight hn T gT t
  obtain ⟨B, bl, bg, bt, bh, bi, be, _⟩ := inv_exists hn h2 F gF tF nh ni
  have gB := good_tauK bg k
  have tK : Tight n (tauK n k B) ∧ hf n ∉ tauK n k B ∧ iota n ∉ tauK n k B ∧ (tauK n k B).length = B.length := by
    unfold tauK
    split
    · exact ⟨bt, bh, bi, rfl⟩
    · exact ⟨tight_turn bg bt, turn_mem bg turn_hf bh, turn_mem bg turn_iota bi, by simp⟩
  refine ⟨tauK n k B, by rw [tK.2.2.2, bl], ?_⟩
  have hfin : Cn n (-k - F.length, tauK n k B) (-k - F.length, tauK n k B) := by
    refine ⟨gB, _, .refl _, tK.1, ?_⟩
    unfold strip
    rw [List.count_eq_zero.2 tK.2.1, List.filter_eq_self.2 fun x hx => by
      simp only [decide_eq_true_eq]
      exact ⟨fun e => tK.2.1 (e ▸ hx), fun e => tK.2.2.1 (e ▸ hx)⟩]
    simp
  refine (eqv_cn hn h2 ?_ _).2 hfin
  have h0 : Eqv n (mulW n (-k - F.length, tauK n k B) w) (0, []) := by
    rw [mulW_start n _ _ gB]
    refine .trans (prodS_eqv hn gB hE) ?_
    have : prodS n (-k - F.length, tauK n k B) (k, F) = (-(F.length : Int), B ++ F) := by
      unfold prodS
      have e3 : tauK n k (tauK n k B) = B := by
        unfold tauK
        split
        · rfl
        · exact map_turn_turn bg
      simp only [e3, Prod.mk.injEq, and_true]
      omega
    rw [this]; exact be
  exact .trans (eqv_mulW hn (invW w) (invW_lt hw) h0.symm) (mulW_inv hn w hw gB)

end
end Go.Proofs.Ytnmklkjlcpgjmaa

namespace Go.Proofs.Ytnmklkjlcpgjmaa
open Go.RowKit Go.Sl

section
variable {n : Nat}
/-- The letter of the crossing i. -/
def ltr (i : Nat) : Int := ((i + 1 : Nat) : Int)
theorem lt_ltr {i : Nat} (h : i + 1 < n) : LtB n (ltr i) := ⟨by unfold ltr; omega, by unfold ltr; omega⟩
/-- Words of a permutation, crossing by crossing. -/
inductive IsUp (n : Nat) : List Int → List Int → Prop
  | nil : IsUp n [] (iota n)
  | snoc {w f : List Int} {j : Nat} (h : IsUp n w f) (hj : j + 1 < n) (hu : up f j) : IsUp n (w ++ [ltr j]) (swapV f j)
theorem IsUp.pn (hn : n ≤ 1000) {w a : List Int} (h : IsUp n w a) : Pn n a := by
  induction h with
  | nil => exact pn_iota hn
  | snoc _ hj _ ih => exact ih.swapV hj
theorem IsUp.len (hn : n ≤ 1000) {w a : List Int} (h : IsUp n w a) : w.length = inv a := by
  induction h with
  | nil => rw [inv_iota]; rfl
  | snoc h hj hu ih => rw [List.length_append, ih, inv_up (h.pn hn) hj hu]; rfl
theorem IsUp.pos {w a : List Int} (h : IsUp n w a) : ∀ x ∈ w, 0 < x ∧ x < n := by
  induction h with
  | nil => intro x hx; simp at hx
  | snoc h hj hu ih =>
    intro x hx
    rcases List.mem_append.1 hx with hx | hx
    · exact ih x hx
    · rw [List.mem_singleton.1 hx]; unfold ltr; omega
theorem IsUp.lt {w a : List Int} (h : IsUp n w a) : ∀ x ∈ w, LtB n x := fun x hx => by
  have := h.pos x hx
  exact ⟨by omega, by omega⟩
theorem up_exists (hn : n ≤ 1000) : ∀ a, Pn n a → ∃ w, IsUp n w a :=
  permInd hn ⟨[], .nil⟩ fun _ _ _ hj hu ⟨_w, h⟩ => ⟨_, .snoc h hj hu⟩
theorem down_up {f : List Int} {i : Nat} (h : Pn n f) (hi : i + 1 < n) (hu : up f i) : dn (backL (swapV f i)) i := by
  have hl : i + 1 < (backL f).length := by rw [backL_length, h.len]; exact hi
  unfold dn
  rw [back_swapV h hi, nth_swapAt' _ _ _ hl, nth_swapAt' _ _ _ hl]
  unfold swN; unfold up at hu
  simpa using hu
theorem swapV_cancel {f g : List Int} {i : Nat} (h : swapV f i = swapV g i) : f = g := by
  have := congrArg (fun l => swapV l i) h
  simpa only [swapV_swapV] using this
/-- MATSUMOTO: the words of a permutation are equal by the relations. -/
theorem matsumoto (hn : n ≤ 1000) : ∀ (m : Nat) (w w' a : List Int), inv a ≤ m → IsUp n w a → IsUp n w' a → BE n w w' := by
  intro m
  induction m with
  | zero =>
    intro w w' a h0 h1 h2
    have e1 := h1.len hn
    have e2 := h2.len hn
    rw [List.eq_nil_of_length_eq_zero (show w.length = 0 by omega), List.eq_nil_of_length_eq_zero (show w'.length = 0 by omega)]
    exact .refl _
  | succ m ih =>
    intro w w' a h0 h1 h2
    cases h1 with
    | nil =>
      have e2 := h2.len hn
      rw [inv_iota] at e2
      rw [List.eq_nil_of_length_eq_zero e2]
      exact .refl _
    | @snoc w f i h1 hi ui =>
      have hF := h1.pn hn
      have iF := inv_up hF hi ui
      have key : ∀ {g w2 : List Int} {j : Nat}, IsUp n w2 g → j + 1 < n → up g j → swapV g j = swapV f i → BE n (w ++ [ltr i]) (w2 ++ [ltr j]) := by
        intro g w2 j k2 hj uj e
        have hG := k2.pn hn
        have iG := inv_up hG hj uj
        rw [e] at iG
        by_cases hij : i = j
        · subst hij
          obtain rfl := swapV_cancel e
          exact (ih _ _ _ (by omega) h1 k2).post _
        · have hA : Pn n (swapV f i) := hF.swapV hi
          have hB := hA.back
          have d1 := down_up hF hi ui
          have d2 : dn (backL (swapV f i)) j := by rw [← e]; exact down_up hG hj uj
          have eG : g = swapV (swapV f i) j := by rw [← e, swapV_swapV]
          have bF : backL f = swapAt (backL (swapV f i)) i := by
            have := back_swapV hA hi
            rwa [swapV_swapV] at this
          have bG : backL g = swapAt (backL (swapV f i)) j := by
            have := back_swapV hA hj
            rwa [← eG] at this
          rcases (show i + 1 < j ∨ j + 1 < i ∨ j = i + 1 ∨ i = j + 1 by omega) with hf | hf | rfl | rfl
          · have hfar : i + 1 < j ∨ j + 1 < i := .inl hf
            have d3 : dn (backL f) j := by rw [bF]; exact (dn_far hB hi hfar).2 d2
            have u3 := up_swapV hF hj d3
            obtain ⟨u, hu⟩ := up_exists hn (swapV f j) (hF.swapV hj)
            have h3 := IsUp.snoc hu hj u3
            rw [swapV_swapV] at h3
            have d4 : dn (backL g) i := by rw [bG]; exact (dn_far hB hj hfar.symm).2 d1
            have u4 := up_swapV hG hi d4
            have e5 : swapV g i = swapV f j := by rw [eG, swapV_far hfar.symm, swapV_swapV]
            rw [e5] at u4
            have h4 := IsUp.snoc hu hi u4
            rw [← e5, swapV_swapV] at h4
            have b1 := (ih _ _ _ (by omega) h1 h3).post [ltr i]
            have b2 := (ih _ _ _ (by omega) k2 h4).post [ltr j]
            refine b1.trans (.trans ?_ b2.symm)
            simp only [List.append_assoc, List.cons_append, List.nil_append]
            exact (BE.far (lt_ltr hj) (lt_ltr hi) (by unfold ltr; omega)).pre u
          · have hfar : i + 1 < j ∨ j + 1 < i := .inr hf
            have d3 : dn (backL f) j := by rw [bF]; exact (dn_far hB hi hfar).2 d2
            have u3 := up_swapV hF hj d3
            obtain ⟨u, hu⟩ := up_exists hn (swapV f j) (hF.swapV hj)
            have h3 := IsUp.snoc hu hj u3
            rw [swapV_swapV] at h3
            have d4 : dn (backL g) i := by rw [bG]; exact (dn_far hB hj hfar.symm).2 d1
            have u4 := up_swapV hG hi d4
            have e5 : swapV g i = swapV f j := by rw [eG, swapV_far hfar.symm, swapV_swapV]
            rw [e5] at u4
            have h4 := IsUp.snoc hu hi u4
            rw [← e5, swapV_swapV] at h4
            have b1 := (ih _ _ _ (by omega) h1 h3).post [ltr i]
            have b2 := (ih _ _ _ (by omega) k2 h4).post [ltr j]
            refine b1.trans (.trans ?_ b2.symm)
            simp only [List.append_assoc, List.cons_append, List.nil_append]
            exact (BE.far (lt_ltr hj) (lt_ltr hi) (by unfold ltr; omega)).pre u
          · obtain ⟨p1, p2, p3, p4⟩ := dn_next hB hj d1 d2
            rw [← bF] at p1 p2
            rw [← bG] at p3 p4
            have u1 := up_swapV hF hj p1
            have q1 : dn (backL (swapV f (i + 1))) i := by rw [back_swapV hF hj]; exact p2
            have u2 := up_swapV (hF.swapV hj) hi q1
            have u3 := up_swapV hG hi p3
            have q3 : dn (backL (swapV g i)) (i + 1) := by rw [back_swapV hG hi]; exact p4
            have u4 := up_swapV (hG.swapV hi) hj q3
            have e5 : swapV (swapV g i) (i + 1) = swapV (swapV f (i + 1)) i := by
              have e6 : swapV (swapV f (i + 1)) i = swapV (swapV (swapV (swapV f i) i) (i + 1)) i := by rw [swapV_swapV]
              rw [eG, e6]; exact (swapV_braid).symm
            obtain ⟨u, hu⟩ := up_exists hn _ ((hF.swapV hj).swapV hi)
            have h3 := IsUp.snoc (IsUp.snoc hu hi u2) hj (by rw [swapV_swapV]; exact u1)
            rw [swapV_swapV, swapV_swapV] at h3
            rw [← e5] at hu
            have h4 := IsUp.snoc (IsUp.snoc hu hj u4) hi (by rw [swapV_swapV]; exact u3)
            rw [swapV_swapV, swapV_swapV] at h4
            have b1 := (ih _ _ _ (by omega) h1 h3).post [ltr i]
            have b2 := (ih _ _ _ (by omega) k2 h4).post [ltr (i + 1)]
            refine b1.trans (.trans ?_ b2.symm)
            simp only [List.append_assoc, List.cons_append, List.nil_append]
            exact (BE.braid (i := i + 1) (by omega) hj).pre u
          · obtain ⟨p1, p2, p3, p4⟩ := dn_next hB hi d2 d1
            rw [← bG] at p1 p2
            rw [← bF] at p3 p4
            have u1 := up_swapV hG hi p1
            have q1 : dn (backL (swapV g (j + 1))) j := by rw [back_swapV hG hi]; exact p2
            have u2 := up_swapV (hG.swapV hi) hj q1
            have u3 := up_swapV hF hj p3
            have q3 : dn (backL (swapV f j)) (j + 1) := by rw [back_swapV hF hj]; exact p4
            have u4 := up_swapV (hF.swapV hj) hi q3
            have e5 : swapV (swapV g (j + 1)) j = swapV (swapV f j) (j + 1) := by
              have e6 : swapV (swapV f j) (j + 1) = swapV (swapV (swapV (swapV f (j + 1)) (j + 1)) j) (j + 1) := by rw [swapV_swapV]
              rw [eG, e6]; exact swapV_braid
            obtain ⟨u, hu⟩ := up_exists hn _ ((hF.swapV hj).swapV hi)
            have h3 := IsUp.snoc (IsUp.snoc hu hi u4) hj (by rw [swapV_swapV]; exact u3)
            rw [swapV_swapV, swapV_swapV] at h3
            rw [← e5] at hu
            have h4 := IsUp.snoc (IsUp.snoc hu hj u2) hi (by rw [swapV_swapV]; exact u1)
            rw [swapV_swapV, swapV_swapV] at h4
            have b1 := (ih _ _ _ (by omega) h1 h3).post [ltr (j + 1)]
            have b2 := (ih _ _ _ (by omega) k2 h4).post [ltr j]
            refine b1.trans (.trans ?_ b2.symm)
            simp only [List.append_assoc, List.cons_append, List.nil_append]
            exact (BE.braid (i := j + 1) (by omega) hi).symm.pre u
      generalize ea : swapV f i = a at h2
      cases h2 with
      | nil =>
        have := congrArg inv ea
        rw [inv_iota] at this
        omega
      | @snoc w2 g j h2 hj uj => exact key h2 hj uj ea.symm
theorem mats (hn : n ≤ 1000) {w w' a : List Int} (h : IsUp n w a) (k : IsUp n w' a) : BE n w w' := matsumoto hn _ w w' a (Nat.le_refl _) h k
/-- A crossing in front. -/
theorem IsUp.front (hn : n ≤ 1000) {w f : List Int} (h : IsUp n w f) : ∀ {i : Nat}, i + 1 < n → nth f i < nth f (i + 1) → IsUp n (ltr i :: w) (swapAt f i) := by
  induction h with
  | nil =>
    intro i hi _
    rw [← swapV_iota hi]
    exact IsUp.snoc .nil hi (up_iota hn hi)
  | @snoc w f j h hj uj ih =>
    intro i hi ha
    have hF := h.pn hn
    have hnd : ¬ dn f i := fun hd => by
      have := dn_keep hF hi hj hd uj
      unfold dn at this; omega
    have hasc := (dn_or hF hi).resolve_left hnd
    have h1 := ih hi hasc
    rw [swap_comm hF hi]
    refine IsUp.snoc h1 hj ?_
    have hS := hF.swapAt hi
    have hV := hF.swapV hj
    rcases up_or hS hj with h2 | h2
    · exact h2
    · exfalso
      have i1 := inv_down hS hj h2
      have hd2 : dn (swapAt (swapV f j) i) i := by
        unfold dn
        rw [nsw hV hi, nsw hV hi]
        unfold swN
        simpa using ha
      have i2 := inv_dn (hV.swapAt hi) hi hd2
      rw [swapAt_swapAt _ _ (by rw [swapV_length, hF.len]; exact hi), swap_comm hF hi] at i2
      have hd3 : dn (swapAt f i) i := by
        unfold dn
        rw [nsw hF hi, nsw hF hi]
        unfold swN
        simpa using hasc
      have i3 := inv_dn hS hi hd3
      rw [swapAt_swapAt _ _ (by rw [hF.len]; exact hi)] at i3
      have i4 := inv_up hF hj uj
      omega
/-- Turned words. -/
def turnW (n : Nat) (w : List Int) : List Int := w.map fun x => (n : Int) - x
theorem IsUp.turn (hn : n ≤ 1000) {w a : List Int} (h : IsUp n w a) : IsUp n (turnW n w) (turnP n a) := by
  induction h with
  | nil => rw [turn_iota]; exact .nil
  | @snoc w f j h hj uj ih =>
    have hF := h.pn hn
    rw [turn_swapV hF hj]
    have e : turnW n (w ++ [ltr j]) = turnW n w ++ [ltr (n - 2 - j)] := by
      unfold turnW ltr
      rw [List.map_append]
      simp only [List.map_cons, List.map_nil]
      congr 2
      omega
    rw [e]
    refine IsUp.snoc ih (by omega) ?_
    rw [up_turn hF (by omega), show n - 2 - (n - 2 - j) = j by omega]
    exact uj

/-! ### Words of sequences and of states -/
inductive WdF (n : Nat) : List (List Int) → List Int → Prop
  | nil : WdF n [] []
  | cons {a u : List Int} {F : List (List Int)} {w : List Int} (h : IsUp n u a) (k : WdF n F w) : WdF n (a :: F) (u ++ w)
theorem WdF.exists (hn : n ≤ 1000) : ∀ F, Good n F → ∃ w, WdF n F w := by
  intro F
  induction F with
  | nil => exact fun _ => ⟨_, .nil⟩
  | cons a F ih =>
    intro g
    obtain ⟨w, hw⟩ := ih g.tl
    obtain ⟨u, hu⟩ := up_exists hn a g.hd
    exact ⟨_, .cons hu hw⟩
theorem WdF.pos {F : List (List Int)} {w : List Int} (h : WdF n F w) : ∀ x ∈ w, 0 < x ∧ x < n := by
  induction h with
  | nil => intro x hx; simp at hx
  | cons h _ ih => exact fun x hx => (List.mem_append.1 hx).elim (h.pos x) (ih x)
theorem WdF.lt {F : List (List Int)} {w : List Int} (h : WdF n F w) : ∀ x ∈ w, LtB n x := fun x hx => by
  have := h.pos x hx
  exact ⟨by omega, by omega⟩
theorem WdF.len (hn : n ≤ 1000) {F : List (List Int)} {w : List Int} (h : WdF n F w) : w.length = tot F := by
  induction h with
  | nil => rfl
  | cons h _ ih => rw [List.length_append, ih, h.len hn]; rfl
theorem WdF.uniq (hn : n ≤ 1000) {F : List (List Int)} {w w' : List Int} (h : WdF n F w) : WdF n F w' → BE n w w' := by
  induction h generalizing w' with
  | nil => intro k; cases k; exact .refl _
  | cons h _ ih =>
    intro k
    cases k with
    | cons h' k => exact (mats hn h h').app (ih k)
theorem WdF.app {F G : List (List Int)} {u w : List Int} (h : WdF n F u) (k : WdF n G w) : WdF n (F ++ G) (u ++ w) := by
  induction h with
  | nil => exact k
  | cons h _ ih => rw [List.append_assoc]; exact .cons h ih
theorem WdF.split {F G : List (List Int)} : ∀ {w : List Int}, WdF n (F ++ G) w → ∃ u v, WdF n F u ∧ WdF n G v ∧ w = u ++ v := by
  induction F with
  | nil => exact fun {w} h => ⟨[], w, .nil, h, rfl⟩
  | cons a F ih =>
    intro w h
    cases h with
    | cons h k =>
      obtain ⟨u, v, h1, h2, rfl⟩ := ih k
      exact ⟨_, _, .cons h h1, h2, by simp⟩
theorem WdF.turn (hn : n ≤ 1000) {F : List (List Int)} {w : List Int} (h : WdF n F w) : WdF n (F.map (turnP n)) (turnW n w) := by
  induction h with
  | nil => exact .nil
  | cons h _ ih =>
    unfold turnW at *
    rw [List.map_append]
    exact .cons (h.turn hn) ih
theorem WdF.step (hn : n ≤ 1000) {F G : List (List Int)} (h : Step n F G) : Good n F → ∀ {w w' : List Int}, WdF n F w → WdF n G w' → BE n w w' := by
  induction h with
  | @here a b i post hi hu hd =>
    intro g w w' h k
    cases h with
    | cons h1 h =>
    cases h with
    | @cons _ v _ z h2 h3 =>
    cases k with
    | cons k1 k =>
    cases k with
    | @cons _ v' _ z' k2 k3 =>
    have hb := (g.tl).hd
    have hA := mats hn k1 (.snoc h1 hi hu)
    have hasc : nth (swapAt b i) i < nth (swapAt b i) (i + 1) := by
      rw [nsw hb hi, nsw hb hi]
      unfold swN
      unfold dn at hd
      simpa using hd
    have h4 := k2.front hn hi hasc
    rw [swapAt_swapAt _ _ (by rw [hb.len]; exact hi)] at h4
    have hB := mats hn h2 h4
    have hC := h3.uniq hn k3
    refine ((BE.refl (n := n) _).app (hB.app hC)).trans ?_
    refine BE.trans ?_ ((hA.symm).app (BE.refl (v' ++ z')))
    simp only [List.append_assoc, List.cons_append, List.nil_append]
    exact .refl _
  | next x h ih =>
    intro g w w' h1 k1
    cases h1 with
    | cons h1 h2 =>
    cases k1 with
    | cons k1 k2 => exact (mats hn h1 k1).app (ih g.tl h2 k2)
end
end Go.Proofs.Ytnmklkjlcpgjmaa

namespace Go.Proofs.Ytnmklkjlcpgjmaa
open Go.RowKit Go.Sl

section
variable {n : Nat}
def invB (w : List Int) : List Int := (w.map fun x => -x).reverse
theorem invB_append (a b : List Int) : invB (a ++ b) = invB b ++ invB a := by simp [invB]
theorem invB_invB (a : List Int) : invB (invB a) = a := by simp [invB, List.map_reverse, Function.comp_def]
theorem invB_lt {w : List Int} (h : ∀ x ∈ w, LtB n x) : ∀ x ∈ invB w, LtB n x := fun x hx => by
  unfold invB at hx
  rw [List.mem_reverse] at hx
  obtain ⟨y, hy, rfl⟩ := List.mem_map.1 hx
  have := h y hy
  exact ⟨by have := this.1; omega, by have := this.2; omega⟩
theorem BE.mulInv {w : List Int} (h : ∀ x ∈ w, LtB n x) : BE n (w ++ invB w) [] := by
  induction w with
  | nil => exact .refl _
  | cons x w ih =>
    have h1 := BE.ctx [x] [-x] (ih fun y hy => h y (by simp [hy]))
    have e : (x :: w) ++ invB (x :: w) = [x] ++ (w ++ invB w) ++ [-x] := by simp [invB]
    rw [e]
    exact h1.trans (by simpa using BE.cancel (h x (by simp)))
theorem BE.invMul {w : List Int} (h : ∀ x ∈ w, LtB n x) : BE n (invB w ++ w) [] := by
  have := BE.mulInv (invB_lt h)
  rwa [invB_invB] at this
theorem BE.inv {u v : List Int} (h : BE n u v) (hu : ∀ x ∈ u, LtB n x) : BE n (invB u) (invB v) := by
  have hv := h.lt.1 hu
  have h1 : BE n (invB u ++ v ++ invB v) (invB u ++ u ++ invB v) := BE.ctx (invB u) (invB v) h.symm
  have h2 := (BE.mulInv hv).pre (invB u)
  have h3 := (BE.invMul hu).post (invB v)
  rw [← List.append_assoc, List.append_nil] at h2
  exact h2.symm.trans (h1.trans h3)
theorem BE.cancelL {a u v : List Int} (h : BE n (a ++ u) (a ++ v)) (ha : ∀ x ∈ a, LtB n x) : BE n u v := by
  have h1 := h.pre (invB a)
  rw [← List.append_assoc, ← List.append_assoc] at h1
  exact ((BE.invMul ha).post u).symm.trans (h1.trans ((BE.invMul ha).post v))
theorem BE.cancelR {a u v : List Int} (h : BE n (u ++ a) (v ++ a)) (ha : ∀ x ∈ a, LtB n x) : BE n u v := by
  have h1 := h.post (invB a)
  rw [List.append_assoc, List.append_assoc] at h1
  have h2 := fun w => (BE.mulInv ha).pre w
  simp only [List.append_nil] at h2
  exact (h2 u).symm.trans (h1.trans (h2 v))
/-- A power of a word. -/
def powB (k : Int) (t : List Int) : List Int := (List.replicate k.natAbs (if 0 ≤ k then t else invB t)).flatten
theorem repB_succ (k : Nat) (t : List Int) : (List.replicate (k + 1) t).flatten = (List.replicate k t).flatten ++ t := by rw [List.replicate_succ', List.flatten_append, List.flatten_singleton]
theorem powB_zero (t : List Int) : powB 0 t = [] := rfl
theorem powB_succ {t : List Int} (ht : ∀ x ∈ t, LtB n x) (k : Int) : BE n (powB (k + 1) t) (powB k t ++ t) := by
  rcases Int.lt_or_le k 0 with h | h
  · obtain ⟨m, rfl⟩ : ∃ m : Nat, k = -((m : Int) + 1) := ⟨(-k - 1).toNat, by omega⟩
    have e1 : powB (-((m : Int) + 1)) t = (List.replicate m (invB t)).flatten ++ invB t := by
      unfold powB
      rw [if_neg (by omega), show (-((m : Int) + 1)).natAbs = m + 1 by omega, repB_succ]
    have e2 : powB (-((m : Int) + 1) + 1) t = (List.replicate m (invB t)).flatten := by
      unfold powB
      rw [show (-((m : Int) + 1) + 1).natAbs = m by omega]
      rcases Nat.eq_zero_or_pos m with rfl | h0
      · rfl
      · rw [if_neg (by omega)]
    rw [e1, e2, List.append_assoc]
    have := (BE.invMul ht).pre (List.replicate m (invB t)).flatten
    rw [List.append_nil] at this
    exact this.symm
  · have e1 : powB (k + 1) t = powB k t ++ t := by
      unfold powB
      rw [if_pos (by omega), if_pos h, show (k + 1).natAbs = k.natAbs + 1 by omega, repB_succ]
    rw [e1]
    exact .refl _
theorem powB_lt {t : List Int} (ht : ∀ x ∈ t, LtB n x) (k : Int) : ∀ x ∈ powB k t, LtB n x := fun x hx => by
  unfold powB at hx
  obtain ⟨l, hl, hx⟩ := List.mem_flatten.1 hx
  rw [List.eq_of_mem_replicate hl] at hx
  split at hx
  · exact ht x hx
  · exact invB_lt ht x hx
theorem powB_congr {t t' : List Int} (h : BE n t t') (ht : ∀ x ∈ t, LtB n x) (k : Int) : BE n (powB k t) (powB k t') := by
  have key : ∀ (m : Nat) {a b : List Int}, BE n a b → BE n (List.replicate m a).flatten (List.replicate m b).flatten := by
    intro m
    induction m with
    | zero => exact fun _ => .refl _
    | succ m ih =>
      intro a b h
      rw [List.replicate_succ, List.replicate_succ, List.flatten_cons, List.flatten_cons]
      exact h.app (ih h)
  unfold powB
  split
  · exact key _ h
  · exact key _ (h.inv ht)
/-- A word of a state. -/
def Wd (n : Nat) (s : St) (w : List Int) : Prop := ∃ t u, IsUp n t (hf n) ∧ WdF n s.2 u ∧ w = powB s.1 t ++ u
theorem Wd.exists (hn : n ≤ 1000) {s : St} (g : Good n s.2) : ∃ w, Wd n s w := by
  obtain ⟨t, ht⟩ := up_exists hn _ (pn_hf hn)
  obtain ⟨u, hu⟩ := WdF.exists hn _ g
  exact ⟨_, t, u, ht, hu, rfl⟩
theorem Wd.uniq (hn : n ≤ 1000) {s : St} {w w' : List Int} (h : Wd n s w) (k : Wd n s w') : BE n w w' := by
  obtain ⟨t, u, h1, h2, rfl⟩ := h
  obtain ⟨t', u', k1, k2, rfl⟩ := k
  exact (powB_congr (mats hn h1 k1) h1.lt _).app (h2.uniq hn k2)
theorem Wd.eqv (hn : n ≤ 1000) {s t : St} (h : Eqv n s t) : Good n s.2 → ∀ {w w' : List Int}, Wd n s w → Wd n t w' → BE n w w' := by
  induction h with
  | refl => exact fun _ _ _ h k => h.uniq hn k
  | symm h ih => exact fun g w w' h1 k1 => (ih ((eqv_good hn h).2 g) k1 h1).symm
  | trans h1 h2 ih1 ih2 =>
    intro g w w' a b
    have g2 := (eqv_good hn h1).1 g
    obtain ⟨v, hv⟩ := Wd.exists hn g2
    exact (ih1 g a hv).trans (ih2 g2 hv b)
  | step k g h =>
    rintro - w w' ⟨t, u, h1, h2, rfl⟩ ⟨t', u', k1, k2, rfl⟩
    exact (powB_congr (mats hn h1 k1) h1.lt _).app (WdF.step hn h g h2 k2)
  | trail k g =>
    rintro - w w' ⟨t, u, h1, h2, rfl⟩ ⟨t', u', k1, k2, rfl⟩
    obtain ⟨x, y, h3, h4, rfl⟩ := h2.split
    have h5 : BE n y [] := h4.uniq hn (WdF.cons .nil .nil)
    have h6 := (h3.uniq hn k2).app h5
    rw [List.append_nil] at h6
    exact (powB_congr (mats hn h1 k1) h1.lt _).app h6
  | half k g =>
    rintro - w w' ⟨t, u, h1, h2, rfl⟩ ⟨t', u', k1, k2, rfl⟩
    cases h2 with
    | cons h2 h3 =>
      have a1 := (powB_congr (mats hn h1 k1) h1.lt k).app ((mats hn h2 k1).app (h3.uniq hn k2))
      rw [← List.append_assoc (powB k t')] at a1
      exact a1.trans ((powB_succ k1.lt k).symm.post _)
/-- The half twist turns letters. -/
theorem half_letter (hn : n ≤ 1000) {t : List Int} (ht : IsUp n t (hf n)) {i : Nat} (hi : i + 1 < n) : BE n (ltr i :: t) (t ++ [ltr (n - 2 - i)]) := by
  have hH := pn_hf (n := n) hn
  have hj : n - 2 - i + 1 < n := by omega
  obtain ⟨d, hd⟩ := up_exists hn (swapV (hf n) (n - 2 - i)) (hH.swapV hj)
  have hu : up (swapV (hf n) (n - 2 - i)) (n - 2 - i) := up_swapV hH hj ((up_or hH hj).resolve_left (not_up_hf hn hj))
  have h1 := IsUp.snoc hd hj hu
  rw [swapV_swapV] at h1
  have e := swapAt_hf hn hi
  rw [← e] at hd
  have hdn := dn_hf (n := n) hi
  have hasc : nth (swapAt (hf n) i) i < nth (swapAt (hf n) i) (i + 1) := by
    rw [nsw hH hi, nsw hH hi]
    unfold swN
    unfold dn at hdn
    simpa using hdn
  have h2 := hd.front hn hi hasc
  rw [swapAt_swapAt _ _ (by rw [hH.len]; exact hi)] at h2
  have a1 := (mats hn ht h1).pre [ltr i]
  have a2 := (mats hn h2 ht).post [ltr (n - 2 - i)]
  simp only [List.cons_append, List.nil_append] at a1 a2
  exact a1.trans a2
theorem half_turn (hn : n ≤ 1000) {t : List Int} (ht : IsUp n t (hf n)) (u : List Int) : (∀ x ∈ u, 0 < x ∧ x < n) → BE n (turnW n u ++ t) (t ++ u) := by
  induction u with
  | nil => intro _; rw [List.append_nil]; exact .refl _
  | cons x u ih =>
    intro hu
    have hx := hu x (by simp)
    have h1 := half_letter hn ht (i := n - 1 - x.toNat) (by omega)
    have e1 : ltr (n - 1 - x.toNat) = (n : Int) - x := by unfold ltr; omega
    have e2 : ltr (n - 2 - (n - 1 - x.toNat)) = x := by unfold ltr; omega
    rw [e1, e2] at h1
    have h2 := (ih fun y hy => hu y (by simp [hy])).pre [(n : Int) - x]
    have h3 := h1.post u
    simp only [turnW, List.map_cons, List.cons_append, List.nil_append, List.append_assoc] at h2 h3 ⊢
    exact h2.trans h3
theorem Wd.mul (hn : n ≤ 1000) {s : St} {x : Int} (hx : Lt n x) {w w' : List Int} (h : Wd n s w) (k : Wd n (mulS n s x) w') : BE n w' (w ++ [x]) := by
  obtain ⟨t, u, h1, h2, rfl⟩ := h
  obtain ⟨t', u', k1, k2, rfl⟩ := k
  obtain ⟨hx0, hxn⟩ := hx
  unfold mulS at k2 ⊢
  split
  · rename_i hp
    rw [if_pos hp] at k2
    obtain ⟨a, b, a1, b1, rfl⟩ := WdF.split k2
    have hi : x.natAbs - 1 + 1 < n := by omega
    have e : ltr (x.natAbs - 1) = x := by unfold ltr; omega
    have hs : WdF n [sgP n (x.natAbs - 1)] [x] := by
      have h3 := IsUp.snoc (n := n) .nil hi (up_iota hn hi)
      rw [e] at h3
      have h4 := WdF.cons h3 .nil
      simp only [List.nil_append, List.append_nil] at h4
      exact h4
    have h4 := (a1.uniq hn h2).app (b1.uniq hn hs)
    rw [List.append_assoc]
    exact (powB_congr (mats hn k1 h1) k1.lt _).app h4
  · rename_i hp
    rw [if_neg hp] at k2
    obtain ⟨a, b, a1, b1, rfl⟩ := WdF.split k2
    have hi : x.natAbs - 1 + 1 < n := by omega
    have e : ltr (x.natAbs - 1) = -x := by unfold ltr; omega
    have hH := pn_hf (n := n) hn
    obtain ⟨d, hd⟩ := up_exists hn (dgP n (x.natAbs - 1)) (pn_dg hn hi)
    have hu : up (dgP n (x.natAbs - 1)) (x.natAbs - 1) := up_swapV hH hi ((up_or hH hi).resolve_left (not_up_hf hn hi))
    have h3 := IsUp.snoc hd hi hu
    unfold dgP at h3
    rw [swapV_swapV, e] at h3
    have hdt : BE n d (t ++ [x]) := by
      have h4 := (mats hn h3 h1).post [x]
      rw [List.append_assoc] at h4
      have h5 := (BE.cancel (n := n) (x := -x) ⟨by omega, by omega⟩).pre d
      rw [Int.neg_neg] at h5
      rw [List.append_nil] at h5
      exact h5.symm.trans h4
    have hb : BE n b d := b1.uniq hn (by simpa using WdF.cons hd .nil)
    have ha : BE n a (turnW n u) := a1.uniq hn (h2.turn hn)
    have c1 : BE n (a ++ b) (turnW n u ++ (t ++ [x])) := ha.app (hb.trans hdt)
    have c2 := (half_turn hn h1 u h2.pos).post [x]
    rw [List.append_assoc] at c2
    have c3 := (powB_congr (mats hn k1 h1) k1.lt (s.1 - 1)).app (c1.trans c2)
    have c4 := (powB_succ h1.lt (s.1 - 1)).post (u ++ [x])
    rw [show s.1 - 1 + 1 = s.1 by omega] at c4
    simp only [List.append_assoc] at c3 c4 ⊢
    exact c3.trans c4.symm
theorem Wd.mulW (hn : n ≤ 1000) (w : List Int) : ∀ {s : St} {a b : List Int}, Good n s.2 → (∀ x ∈ w, Lt n x) → Wd n s a → Wd n (mulW n s w) b → BE n b (a ++ w) := by
  induction w with
  | nil =>
    intro s a b _ _ h k
    rw [List.append_nil]
    exact k.uniq hn h
  | cons x w ih =>
    intro s a b g hw h k
    have hx := hw x (by simp)
    have g2 := mulS_good hn hx g
    obtain ⟨c, hc⟩ := Wd.exists hn g2
    have h1 := ih g2 (fun y hy => hw y (by simp [hy])) hc k
    have h2 := (Wd.mul hn hx h hc).post w
    rw [List.append_assoc] at h2
    exact h1.trans h2
/-- The state of a word. -/
def stB (n : Nat) (w : List Int) : St := mulW n (0, []) w
theorem stB_good (hn : n ≤ 1000) {w : List Int} (h : ∀ x ∈ w, LtB n x) : Good n (stB n w).2 := mulW_good hn w _ h (good_nil n)
theorem stB_wd (hn : n ≤ 1000) {w : List Int} (h : ∀ x ∈ w, LtB n x) {b : List Int} (k : Wd n (stB n w) b) : BE n b w := by
  obtain ⟨t, ht⟩ := up_exists hn _ (pn_hf (n := n) hn)
  have h0 : Wd n (0, []) [] := ⟨t, [], ht, .nil, rfl⟩
  simpa using Wd.mulW hn w (good_nil n) h h0 k
theorem BE.eqv (hn : n ≤ 1000) {u v : List Int} (h : BE n u v) : (∀ x ∈ u, LtB n x) → ∀ {s : St}, Good n s.2 → Eqv n (mulW n s u) (mulW n s v) := by
  induction h with
  | refl => exact fun _ _ _ => .refl _
  | symm h ih => exact fun hu s g => .symm (ih (h.lt.2 hu) g)
  | trans h1 h2 ih1 ih2 => exact fun hu s g => .trans (ih1 hu g) (ih2 (h1.lt.1 hu) g)
  | @ctx a b u v h ih =>
    intro hu s g
    rw [mulW_append, mulW_append, mulW_append, mulW_append]
    have g1 := mulW_good hn a s (fun x hx => hu x (by simp [hx])) g
    exact eqv_mulW hn b (fun x hx => hu x (by simp [hx])) (ih (fun x hx => hu x (by simp [hx])) g1)
  | cancel h => exact fun _ s g => Go.Proofs.Ytnmklkjlcpgjmaa.cancel hn h g
  | @far x y hx hy h =>
    intro _ s g
    have hxn := hx.2; have hyn := hy.2; have hx0 := hx.1; have hy0 := hy.1
    -- positive letters commute; the others by cancelling
    have pos : ∀ {p q : Int}, 0 < p → 0 < q → Lt n p → Lt n q → (p.natAbs + 1 < q.natAbs ∨ q.natAbs + 1 < p.natAbs) → ∀ {s : St}, Good n s.2 → Eqv n (mulS n (mulS n s p) q) (mulS n (mulS n s q) p) := by
      intro p q hp hq lp lq hpq s g
      have lp2 := lp.2
      have lq2 := lq.2
      have := far_mul hn (i := p.natAbs - 1) (j := q.natAbs - 1) (by omega) (by omega) (by omega) g
      rw [show ((p.natAbs - 1 : Nat) : Int) + 1 = p by omega, show ((q.natAbs - 1 : Nat) : Int) + 1 = q by omega] at this
      exact this
    have ng : ∀ {p q : Int}, Lt n p → Lt n q → (∀ {s : St}, Good n s.2 → Eqv n (mulS n (mulS n s p) q) (mulS n (mulS n s q) p)) → ∀ {s : St}, Good n s.2 → Eqv n (mulS n (mulS n s (-p)) q) (mulS n (mulS n s q) (-p)) := by
      intro p q lp lq hc s g
      have lm : Lt n (-p) := ⟨by have := lp.1; omega, by have := lp.2; omega⟩
      have g1 := mulS_good hn lm g
      have h1 := cancel' hn lp g
      -- s -p q = s -p q p -p = s -p p q -p = s q -p
      have h2 : Eqv n (mulS n (mulS n s (-p)) q) (mulS n (mulS n (mulS n (mulS n s (-p)) q) p) (-p)) := (Go.Proofs.Ytnmklkjlcpgjmaa.cancel hn lp (mulS_good hn lq g1)).symm
      have h3 := eqv_mul hn lm (hc g1).symm
      have h4 := eqv_mul hn lm (eqv_mul hn lq h1)
      exact h2.trans (h3.trans h4)
    have sw : ∀ {p q : Int}, (∀ {s : St}, Good n s.2 → Eqv n (mulS n (mulS n s p) q) (mulS n (mulS n s q) p)) → ∀ {s : St}, Good n s.2 → Eqv n (mulS n (mulS n s q) p) (mulS n (mulS n s p) q) := fun h _ g => (h g).symm
    have lax : Lt n (x.natAbs : Int) := ⟨by omega, by omega⟩
    have lay : Lt n (y.natAbs : Int) := ⟨by omega, by omega⟩
    have base : ∀ {s : St}, Good n s.2 → Eqv n (mulS n (mulS n s (x.natAbs : Int)) (y.natAbs : Int)) (mulS n (mulS n s (y.natAbs : Int)) (x.natAbs : Int)) := fun g => pos (by omega) (by omega) lax lay (by simpa using h) g
    have step1 : ∀ {s : St}, Good n s.2 → Eqv n (mulS n (mulS n s x) (y.natAbs : Int)) (mulS n (mulS n s (y.natAbs : Int)) x) := by
      rcases Int.lt_or_le x 0 with hn0 | hp0
      · intro s g
        have := ng lax lay base g
        rwa [show -(x.natAbs : Int) = x by omega] at this
      · intro s g
        have := base g
        rwa [show (x.natAbs : Int) = x by omega] at this
    rcases Int.lt_or_le y 0 with hn0 | hp0
    · have := ng lay hx (sw step1) g
      rw [show -(y.natAbs : Int) = y by omega] at this
      exact this.symm
    · have := step1 g
      rw [show (y.natAbs : Int) = y by omega] at this
      exact this
  | @braid i h0 h =>
    intro _ s g
    have := braid_mul hn (i := i - 1) (by omega) g
    rw [show ((i - 1 : Nat) : Int) + 1 = (i : Int) by omega] at this
    exact this
end
end Go.Proofs.Ytnmklkjlcpgjmaa

namespace Go.Proofs.Ytnmklkjlcpgjmaa
open Go.RowKit Go.Sl

section
variable {n : Nat}
def PosW (n : Nat) (t : List Int) : Prop := ∀ x ∈ t, 0 < x ∧ x < n
theorem PosW.lt {t : List Int} (h : PosW n t) : ∀ x ∈ t, LtB n x := fun x hx => by
  have := h x hx
  exact ⟨by omega, by omega⟩
theorem posW_nil : PosW n [] := fun x hx => by simp at hx
theorem PosW.app {s t : List Int} (h : PosW n s) (k : PosW n t) : PosW n (s ++ t) := fun x hx => (List.mem_append.1 hx).elim (h x) (k x)
theorem PosW.left {s t : List Int} (h : PosW n (s ++ t)) : PosW n s := fun x hx => h x (by simp [hx])
theorem PosW.right {s t : List Int} (h : PosW n (s ++ t)) : PosW n t := fun x hx => h x (by simp [hx])
theorem PosW.rev {t : List Int} (h : PosW n t) : PosW n t.reverse := fun x hx => h x (by simpa using hx)
theorem PosW.one {x : Int} (h : 0 < x ∧ x < n) : PosW n [x] := fun y hy => by rw [List.mem_singleton.1 hy]; exact h
theorem PosW.hd {x : Int} {t : List Int} (h : PosW n (x :: t)) : 0 < x ∧ x < n := h x (by simp)
theorem PosW.tl {x : Int} {t : List Int} (h : PosW n (x :: t)) : PosW n t := fun y hy => h y (by simp [hy])
theorem PosW.cons {x : Int} {t : List Int} (h : 0 < x ∧ x < n) (k : PosW n t) : PosW n (x :: t) := fun y hy => by
  rcases List.mem_cons.1 hy with rfl | hy
  · exact h
  · exact k y hy
theorem pos_ltr {i : Nat} (h : i + 1 < n) : 0 < ltr i ∧ ltr i < n := by unfold ltr; omega
theorem ltr_of {x : Int} (h : 0 < x ∧ x < n) : ∃ i, i + 1 < n ∧ x = ltr i := ⟨x.toNat - 1, by omega, by unfold ltr; omega⟩
theorem IsUp.posW {w a : List Int} (h : IsUp n w a) : PosW n w := h.pos
theorem WdF.posW {F : List (List Int)} {w : List Int} (h : WdF n F w) : PosW n w := h.pos
/-- The sum of exponents. -/
def exB (w : List Int) : Int := (w.map Int.sign).sum
theorem exB_append (a b : List Int) : exB (a ++ b) = exB a + exB b := by simp [exB]
theorem BE.ex {u v : List Int} (h : BE n u v) : exB u = exB v := by
  induction h with
  | refl => rfl
  | symm _ ih => exact ih.symm
  | trans _ _ ih1 ih2 => exact ih1.trans ih2
  | ctx a b _ ih => simp only [exB_append, ih]
  | cancel h => simp [exB, Int.sign_neg]; omega
  | far => simp [exB]; omega
  | braid h0 h =>
    simp only [exB, List.map_cons, List.map_nil, List.sum_cons, List.sum_nil]
    rw [Int.sign_eq_one_of_pos (show (0 : Int) < ((_ + 1 : Nat) : Int) by omega), Int.sign_eq_one_of_pos (by omega)]
theorem PosW.ex {t : List Int} (h : PosW n t) : exB t = t.length := by
  induction t with
  | nil => rfl
  | cons x t ih =>
    have h1 := ih h.tl
    unfold exB at h1 ⊢
    rw [List.map_cons, List.sum_cons, h1, Int.sign_eq_one_of_pos h.hd.1, List.length_cons]
    omega
theorem exB_inv (w : List Int) : exB (invB w) = - exB w := by
  induction w with
  | nil => rfl
  | cons x w ih =>
    have e : invB (x :: w) = invB w ++ [-x] := by simp [invB]
    rw [e, exB_append, ih]
    simp [exB, Int.sign_neg]; omega

/-! ### What a sequence begins with -/
def fwB (n : Nat) (w : List Int) : List (List Int) := w.map fun x => sgP n (x.natAbs - 1)
theorem fwB_good (hn : n ≤ 1000) {w : List Int} (h : PosW n w) : Good n (fwB n w) := fun a ha => by
  obtain ⟨x, hx, rfl⟩ := List.mem_map.1 ha
  have := h x hx
  exact pn_sg hn (by omega)
theorem fwB_wd (hn : n ≤ 1000) {w : List Int} (h : PosW n w) : WdF n (fwB n w) w := by
  induction w with
  | nil => exact .nil
  | cons x w ih =>
    have hx := h.hd
    have h3 := IsUp.snoc (n := n) (j := x.natAbs - 1) .nil (by omega) (up_iota hn (by omega))
    have e : ltr (x.natAbs - 1) = x := by unfold ltr; omega
    rw [e] at h3
    exact WdF.cons h3 (ih h.tl)
theorem stB_pos {w : List Int} (h : PosW n w) : stB n w = (0, fwB n w) := by
  have key : ∀ (w : List Int) (s : St), PosW n w → mulW n s w = (s.1, s.2 ++ fwB n w) := by
    intro w
    induction w with
    | nil => intro s _; simp [mulW, fwB]
    | cons x w ih =>
      intro s h
      show mulW n (mulS n s x) w = _
      rw [ih _ h.tl]
      unfold mulS
      rw [if_pos h.hd.1]
      simp [fwB]
  unfold stB
  rw [key w (0, []) h]
  simp
theorem Reach.words (hn : n ≤ 1000) {F T : List (List Int)} (h : Reach n F T) : Good n F → ∀ {w w' : List Int}, WdF n F w → WdF n T w' → BE n w w' := by
  induction h with
  | refl => exact fun _ _ _ h k => h.uniq hn k
  | head h _ ih =>
    intro g w w' a b
    obtain ⟨v, hv⟩ := WdF.exists hn _ (h.good g)
    exact (WdF.step hn h g a hv).trans (ih (h.good g) hv b)
theorem step_head {a : List Int} {F G : List (List Int)} (h : Step n (a :: F) G) (hp : Pn n a) {i : Nat} (hi : i + 1 < n) (hd : dn a i) : ∃ a' G', G = a' :: G' ∧ Pn n a' ∧ dn a' i := by
  cases h with
  | here post hj hu hd2 => exact ⟨_, _, rfl, hp.swapV hj, dn_keep hp hi hj hd hu⟩
  | next _ h => exact ⟨_, _, rfl, hp, hd⟩
theorem reach_head {F T : List (List Int)} (h : Reach n F T) : ∀ {a : List Int} {F' : List (List Int)}, F = a :: F' → Pn n a → ∀ {i : Nat}, i + 1 < n → dn a i → ∃ a' T', T = a' :: T' ∧ Pn n a' ∧ dn a' i := by
  induction h with
  | refl => exact fun e hp _ _ hd => ⟨_, _, e, hp, hd⟩
  | head h _ ih =>
    intro a F' e hp i hi hd
    subst e
    obtain ⟨a', G', rfl, hp', hd'⟩ := step_head h hp hi hd
    exact ih rfl hp' hi hd'
/-- Positive words that are equal have one first factor; it begins with the first letters of both. -/
theorem both_heads (hn : n ≤ 1000) (h2 : 2 ≤ n) {i j : Nat} (hi : i + 1 < n) (hj : j + 1 < n) {y z : List Int} (hy : PosW n y) (hz : PosW n z) (h : BE n (ltr i :: y) (ltr j :: z)) :
    ∃ a T w, Pn n a ∧ dn a i ∧ dn a j ∧ WdF n T w ∧ ∀ u, IsUp n u a → BE n (ltr i :: y) (u ++ w) := by
  have py := PosW.cons (pos_ltr hi) hy
  have pz := PosW.cons (pos_ltr hj) hz
  have gy := fwB_good hn py
  have gz := fwB_good hn pz
  have he := h.eqv hn py.lt (s := (0, [])) (good_nil n)
  have e1 := stB_pos py
  have e2 := stB_pos pz
  unfold stB at e1 e2
  rw [e1, e2] at he
  obtain ⟨T, rT, tT⟩ := exists_tight _ _ (Nat.le_refl _) gy
  obtain ⟨U, rU, tU⟩ := exists_tight _ _ (Nat.le_refl _) gz
  have c1 : Cn n (0, fwB n (ltr i :: y)) (strip n 0 T) := ⟨gy, T, rT, tT, rfl⟩
  have c2 : Cn n (0, fwB n (ltr j :: z)) (strip n 0 U) := ⟨gz, U, rU, tU, rfl⟩
  have hs := cn_unique ((eqv_cn hn h2 he _).1 c1) c2
  have en : ∀ k : Nat, (ltr k).natAbs - 1 = k := fun k => by unfold ltr; omega
  obtain ⟨a, T', rfl, pa, da⟩ := reach_head rT (a := sgP n i) (by simp only [fwB, List.map_cons, en]; rfl) (pn_sg hn hi) hi (dn_sg hi)
  obtain ⟨b, U', rfl, pb, db⟩ := reach_head rU (a := sgP n j) (by simp only [fwB, List.map_cons, en]; rfl) (pn_sg hn hj) hj (dn_sg hj)
  have gT := rT.good gy
  have gU := rU.good gz
  have na : a ≠ iota n := fun e => not_dn_iota hi (by rw [e] at da; exact da)
  have nb : b ≠ iota n := fun e => not_dn_iota hj (by rw [e] at db; exact db)
  have hab : a = b := by
    obtain ⟨hs1, hs2⟩ := Prod.mk.inj hs
    have hs1 : (0 : Int) + ((a :: T').count (hf n) : Nat) = 0 + ((b :: U').count (hf n) : Nat) := hs1
    by_cases e : a = hf n
    · have hc : 0 < (a :: T').count (hf n) := List.count_pos_iff.2 (by simp [e])
      have hc2 : 0 < (b :: U').count (hf n) := by omega
      have hm := List.count_pos_iff.1 hc2
      rcases List.mem_cons.1 hm with hm | hm
      · rw [e, hm]
      · by_cases e2 : b = hf n
        · rw [e, e2]
        · exact absurd hm (tight_lead hn gU tU e2)
    · have hno := tight_lead hn gT tT e
      have hc : (a :: T').count (hf n) = 0 := List.count_eq_zero.2 fun hm => by
        rcases List.mem_cons.1 hm with h | h
        · exact e h.symm
        · exact hno h
      have hb : b ≠ hf n := fun e2 => by
        have : 0 < (b :: U').count (hf n) := List.count_pos_iff.2 (by simp [e2])
        omega
      rw [List.filter_cons_of_pos (by simp [e, na]), List.filter_cons_of_pos (by simp [hb, nb])] at hs2
      exact (List.cons.inj hs2).1
  subst hab
  obtain ⟨w, hw⟩ := WdF.exists hn T' gT.tl
  exact ⟨a, T', w, pa, da, db, hw, fun u hu => rT.words hn gy (fwB_wd hn py) (.cons hu hw)⟩
/-- The least common multiple of two letters. -/
def lcmB (i j : Nat) : List Int := if i + 1 < j ∨ j + 1 < i then [ltr i, ltr j] else if i = j then [ltr i] else [ltr i, ltr j, ltr i]
theorem lcmB_pos {i j : Nat} (hi : i + 1 < n) (hj : j + 1 < n) : PosW n (lcmB i j) := by
  unfold lcmB
  split
  · exact .cons (pos_ltr hi) (.one (pos_ltr hj))
  · split
    · exact .one (pos_ltr hi)
    · exact .cons (pos_ltr hi) (.cons (pos_ltr hj) (.one (pos_ltr hi)))
theorem lcmB_head (i j : Nat) : ∃ t, lcmB i j = ltr i :: t := by
  unfold lcmB
  split
  · exact ⟨_, rfl⟩
  · split
    · exact ⟨_, rfl⟩
    · exact ⟨_, rfl⟩
theorem ltr_swap {i j : Nat} (hi : i + 1 < n) (hj : j + 1 < n) : BE n (lcmB i j) (lcmB j i) := by
  by_cases hf : i + 1 < j ∨ j + 1 < i
  · have e1 : lcmB i j = [ltr i, ltr j] := if_pos hf
    have e2 : lcmB j i = [ltr j, ltr i] := if_pos hf.symm
    rw [e1, e2]
    exact .far (lt_ltr hi) (lt_ltr hj) (by unfold ltr; omega)
  · by_cases e : i = j
    · subst e; exact .refl _
    · have e1 : lcmB i j = [ltr i, ltr j, ltr i] := by unfold lcmB; rw [if_neg hf, if_neg e]
      have e2 : lcmB j i = [ltr j, ltr i, ltr j] := by unfold lcmB; rw [if_neg (fun h => hf h.symm), if_neg (fun h => e h.symm)]
      rw [e1, e2]
      rcases (show j = i + 1 ∨ i = j + 1 by omega) with rfl | rfl
      · exact .braid (i := i + 1) (by omega) hj
      · exact (BE.braid (i := j + 1) (by omega) hi).symm
theorem front2 (hn : n ≤ 1000) {a : List Int} (ha : Pn n a) {i : Nat} (hi : i + 1 < n) (hd : dn a i) {u : List Int} (hu : IsUp n u (swapAt a i)) : IsUp n (ltr i :: u) a := by
  have hasc : nth (swapAt a i) i < nth (swapAt a i) (i + 1) := by
    rw [nsw ha hi, nsw ha hi]
    unfold swN
    unfold dn at hd
    simpa using hd
  have := hu.front hn hi hasc
  rwa [swapAt_swapAt _ _ (by rw [ha.len]; exact hi)] at this
/-- GARSIDE. -/
theorem garside_lcm (hn : n ≤ 1000) (h2 : 2 ≤ n) {i j : Nat} (hi : i + 1 < n) (hj : j + 1 < n) {y z : List Int} (hy : PosW n y) (hz : PosW n z) (h : BE n (ltr i :: y) (ltr j :: z)) : ∃ t, PosW n t ∧ BE n (ltr i :: y) (lcmB i j ++ t) := by
  obtain ⟨a, T, w, pa, da, db, hw, hu⟩ := both_heads hn h2 hi hj hy hz h
  have pair : ∀ {i j : Nat}, i + 1 < n → j + 1 < n → dn a i → dn a j → (j = i + 1) → ∃ u, IsUp n ([ltr i, ltr j, ltr i] ++ u) a ∧ IsUp n ([ltr j, ltr i, ltr j] ++ u) a := by
    intro i j hi hj da db e
    subst e
    obtain ⟨p1, p2, p3, p4⟩ := dn_next pa hj da db
    obtain ⟨u, hu⟩ := up_exists hn _ (((pa.swapAt hi).swapAt hj).swapAt hi)
    have h1 := front2 hn pa hi da (front2 hn (pa.swapAt hi) hj p1 (front2 hn ((pa.swapAt hi).swapAt hj) hi p2 hu))
    rw [swapAt_braid pa hj] at hu
    have h2 := front2 hn pa hj db (front2 hn (pa.swapAt hj) hi p3 (front2 hn ((pa.swapAt hj).swapAt hi) hj p4 hu))
    exact ⟨u, h1, h2⟩
  unfold lcmB
  split
  · rename_i hf
    have d2 : dn (swapAt a i) j := (dn_far pa hi hf).2 db
    obtain ⟨u, hu2⟩ := up_exists hn _ ((pa.swapAt hi).swapAt hj)
    have h1 := front2 hn pa hi da (front2 hn (pa.swapAt hi) hj d2 hu2)
    refine ⟨u ++ w, hu2.posW.app hw.posW, ?_⟩
    have := hu _ h1
    simpa using this
  · split
    · exact ⟨y, hy, .refl _⟩
    · rename_i hf hne
      rcases (show j = i + 1 ∨ i = j + 1 by omega) with e | e
      · obtain ⟨u, h1, _⟩ := pair hi hj da db e
        have hp : PosW n u := (h1.posW).right
        refine ⟨u ++ w, hp.app hw.posW, ?_⟩
        have := hu _ h1
        simpa using this
      · obtain ⟨u, _, h1⟩ := pair hj hi db da e
        have hp : PosW n u := (h1.posW).right
        refine ⟨u ++ w, hp.app hw.posW, ?_⟩
        have := hu _ h1
        simpa using this

/-! ### The order -/
def LeB (n : Nat) (x y : List Int) : Prop := ∃ t, PosW n t ∧ BE n (x ++ t) y
theorem LeB.refl (x : List Int) : LeB n x x := ⟨[], posW_nil, by rw [List.append_nil]; exact .refl _⟩
theorem LeB.trans {x y z : List Int} (h : LeB n x y) (k : LeB n y z) : LeB n x z := by
  obtain ⟨s, hs, h⟩ := h
  obtain ⟨t, ht, k⟩ := k
  exact ⟨s ++ t, hs.app ht, by rw [← List.append_assoc]; exact (h.post t).trans k⟩
theorem LeB.congr {x x' y y' : List Int} (h : LeB n x y) (hx : BE n x x') (hy : BE n y y') : LeB n x' y' := by
  obtain ⟨s, hs, h⟩ := h
  exact ⟨s, hs, (hx.symm.post s).trans (h.trans hy)⟩
theorem LeB.add {x t : List Int} (h : PosW n t) : LeB n x (x ++ t) := ⟨t, h, .refl _⟩
theorem LeB.pre {x y : List Int} (a : List Int) (h : LeB n x y) : LeB n (a ++ x) (a ++ y) := by
  obtain ⟨s, hs, h⟩ := h
  exact ⟨s, hs, by rw [List.append_assoc]; exact h.pre a⟩
theorem LeB.of_eq {x y : List Int} (h : BE n x y) : LeB n x y := (LeB.refl x).congr (.refl _) h
theorem LeB.exLe {x y : List Int} (h : LeB n x y) : exB x ≤ exB y := by
  obtain ⟨s, hs, h⟩ := h
  have := h.ex
  rw [exB_append, hs.ex] at this
  omega
/-- Two letters below: their least common multiple too. -/
theorem LeB.lcm (hn : n ≤ 1000) (h2 : 2 ≤ n) {i j : Nat} (hi : i + 1 < n) (hj : j + 1 < n) {z p : List Int} (hz : ∀ x ∈ z, LtB n x) (h : LeB n (z ++ [ltr i]) p) (k : LeB n (z ++ [ltr j]) p) : LeB n (z ++ lcmB i j) p := by
  obtain ⟨s, hs, h⟩ := h
  obtain ⟨t, ht, k⟩ := k
  have h1 := h.trans k.symm
  rw [List.append_assoc, List.append_assoc] at h1
  obtain ⟨u, hu, h3⟩ := garside_lcm hn h2 hi hj hs ht (h1.cancelL hz)
  refine ⟨u, hu, ?_⟩
  have h4 := (h3.pre z).symm
  rw [← List.append_assoc] at h4
  refine h4.trans ?_
  rw [List.append_assoc] at h
  exact h
/-- .. and for the end: what ends with two letters. -/
theorem LeB.lcmR (hn : n ≤ 1000) (h2 : 2 ≤ n) {i j : Nat} (hi : i + 1 < n) (hj : j + 1 < n) {z p : List Int} (hz : ∀ x ∈ z, LtB n x) (h : LeB n z (p ++ [-ltr i])) (k : LeB n z (p ++ [-ltr j])) : LeB n z (p ++ invB (lcmB i j)) := by
  obtain ⟨s, hs, h⟩ := h
  obtain ⟨t, ht, k⟩ := k
  -- z s i = p = z t j
  have un : ∀ {i : Nat} {s : List Int}, i + 1 < n → BE n (z ++ s) (p ++ [-ltr i]) → BE n (z ++ (s ++ [ltr i])) p := by
    intro i s hi h
    have h1 := h.post [ltr i]
    have h3 := (BE.cancel (n := n) (x := -ltr i) ⟨by unfold ltr; omega, by unfold ltr; omega⟩).pre p
    rw [Int.neg_neg, List.append_nil] at h3
    rw [List.append_assoc, List.append_assoc] at h1
    exact h1.trans h3
  have h1 := un hi h
  have k1 := un hj k
  have h3 := ((h1.trans k1.symm).cancelL hz).rev
  simp only [List.reverse_append, List.reverse_cons, List.reverse_nil, List.nil_append, List.cons_append] at h3
  obtain ⟨u, hu, h4⟩ := garside_lcm hn h2 hi hj hs.rev ht.rev h3
  have h5 := h4.rev
  simp only [List.reverse_append, List.reverse_cons, List.reverse_reverse] at h5
  -- z u' lcm' = p
  have h6 := h1.symm.trans (h5.pre z)
  have hlr : BE n (lcmB i j).reverse (lcmB i j) := by
    unfold lcmB
    split
    · rename_i hf; exact .far (lt_ltr hj) (lt_ltr hi) (by unfold ltr; omega)
    · split
      · exact .refl _
      · exact .refl _
  have h7 : BE n p (z ++ (u.reverse ++ lcmB i j)) := h6.trans ((hlr.pre u.reverse).pre z)
  refine ⟨u.reverse, hu.rev, ?_⟩
  have h8 := h7.post (invB (lcmB i j))
  have h9 := (BE.mulInv (lcmB_pos hi hj).lt).pre (z ++ u.reverse)
  rw [List.append_nil] at h9
  simp only [List.append_assoc] at h8 h9
  exact h9.symm.trans h8.symm
end
end Go.Proofs.Ytnmklkjlcpgjmaa

namespace Go.Proofs.Ytnmklkjlcpgjmaa
open Go.RowKit Go.Sl

section
variable {n : Nat} {D : List Int}
theorem powB_add {t : List Int} (ht : ∀ x ∈ t, LtB n x) (a b : Int) : BE n (powB (a + b) t) (powB a t ++ powB b t) := by
  have up : ∀ (m : Nat) (a : Int), BE n (powB (a + m) t) (powB a t ++ powB m t) := by
    intro m
    induction m with
    | zero => intro a; rw [show a + ((0 : Nat) : Int) = a by omega, show ((0 : Nat) : Int) = 0 from rfl, powB_zero, List.append_nil]; exact .refl _
    | succ m ih =>
      intro a
      have h1 := powB_succ ht (a + m)
      have h2 := (powB_succ ht (m : Int)).pre (powB a t)
      rw [show a + ((m + 1 : Nat) : Int) = a + m + 1 by omega, show ((m + 1 : Nat) : Int) = (m : Int) + 1 by omega]
      refine h1.trans (((ih a).post t).trans ?_)
      rw [List.append_assoc]
      exact h2.symm
  rcases Int.lt_or_le b 0 with h | h
  · obtain ⟨m, rfl⟩ : ∃ m : Nat, b = -(m : Int) := ⟨b.natAbs, by omega⟩
    have h1 := up m (a + -(m : Int))
    have h2 := (up m (-(m : Int))).pre (powB a t)
    rw [show a + -(m : Int) + m = a by omega] at h1
    rw [show -(m : Int) + m = 0 by omega, powB_zero, List.append_nil, ← List.append_assoc] at h2
    exact (h1.symm.trans h2).cancelR (powB_lt ht _)
  · obtain ⟨m, rfl⟩ : ∃ m : Nat, b = (m : Int) := ⟨b.natAbs, by omega⟩
    exact up m a
theorem powB_neg {t : List Int} (ht : ∀ x ∈ t, LtB n x) (k : Int) : BE n (powB k t ++ powB (-k) t) [] := by
  have := powB_add ht k (-k)
  rw [show k + -k = 0 by omega, powB_zero] at this
  exact this.symm
theorem powB_pos {t : List Int} (ht : PosW n t) {k : Int} (hk : 0 ≤ k) : PosW n (powB k t) := fun x hx => by
  unfold powB at hx
  obtain ⟨l, hl, hx⟩ := List.mem_flatten.1 hx
  rw [List.eq_of_mem_replicate hl, if_pos hk] at hx
  exact ht x hx
theorem powB_ex {t : List Int} (ht : PosW n t) (k : Int) : exB (powB k t) = k * t.length := by
  have rep : ∀ (m : Nat) (a : List Int), exB (List.replicate m a).flatten = m * exB a := by
    intro m a
    induction m with
    | zero => simp [exB]
    | succ m ih => rw [List.replicate_succ, List.flatten_cons, exB_append, ih, Int.natCast_succ, Int.add_mul]; omega
  unfold powB
  rw [rep]
  split
  · rw [ht.ex]; congr 1; omega
  · rw [exB_inv, ht.ex, Int.mul_neg, ← Int.neg_mul]; congr 1; omega
theorem turnW_pos {u : List Int} (h : PosW n u) : PosW n (turnW n u) := fun x hx => by
  obtain ⟨y, hy, rfl⟩ := List.mem_map.1 hx
  have := h y hy
  omega
theorem turnW_len (u : List Int) : (turnW n u).length = u.length := by simp [turnW]
theorem turnW_turnW (u : List Int) : turnW n (turnW n u) = u := by
  unfold turnW
  rw [List.map_map]
  conv => rhs; rw [← List.map_id u]
  exact List.map_congr_left fun x _ => by simp only [Function.comp]; show (n : Int) - (n - x) = x; omega
theorem turn_past (hn : n ≤ 1000) (hD : IsUp n D (hf n)) {u : List Int} (h : PosW n u) : BE n (u ++ D) (D ++ turnW n u) := by
  have := half_turn hn hD (turnW n u) (turnW_pos h)
  rwa [turnW_turnW] at this
/-- Positive words pass a power of the half twist. -/
theorem passR (hn : n ≤ 1000) (hD : IsUp n D (hf n)) (k : Int) {u : List Int} (h : PosW n u) : ∃ v, PosW n v ∧ v.length = u.length ∧ BE n (powB k D ++ u) (v ++ powB k D) := by
  have up : ∀ (m : Nat) (u : List Int), PosW n u → ∃ v, PosW n v ∧ v.length = u.length ∧ BE n (powB m D ++ u) (v ++ powB m D) := by
    intro m
    induction m with
    | zero => exact fun u h => ⟨u, h, rfl, by show BE n ([] ++ u) (u ++ []); rw [List.nil_append, List.append_nil]; exact .refl _⟩
    | succ m ih =>
      intro u h
      obtain ⟨v, hv, hl, he⟩ := ih (turnW n u) (turnW_pos h)
      refine ⟨v, hv, by rw [hl, turnW_len], ?_⟩
      have h1 := powB_succ hD.lt (m : Int)
      rw [show ((m + 1 : Nat) : Int) = (m : Int) + 1 by omega]
      have h2 := h1.post u
      have h3 := (half_turn hn hD u h).pre (powB m D)
      have h4 := he.post D
      simp only [List.append_assoc] at h2 h3 h4
      exact h2.trans (h3.symm.trans (h4.trans (h1.symm.pre v)))
  rcases Int.lt_or_le k 0 with hk | hk
  · obtain ⟨m, rfl⟩ : ∃ m : Nat, k = -(m : Int) := ⟨k.natAbs, by omega⟩
    -- find v with Δ^m v = u Δ^m
    have dn : ∀ (m : Nat) (u : List Int), PosW n u → ∃ v, PosW n v ∧ v.length = u.length ∧ BE n (powB m D ++ v) (u ++ powB m D) := by
      intro m
      induction m with
      | zero => exact fun u h => ⟨u, h, rfl, by show BE n ([] ++ u) (u ++ []); rw [List.nil_append, List.append_nil]; exact .refl _⟩
      | succ m ih =>
        intro u h
        obtain ⟨v, hv, hl, he⟩ := ih u h
        refine ⟨turnW n v, turnW_pos hv, by rw [turnW_len, hl], ?_⟩
        have h1 := powB_succ hD.lt (m : Int)
        rw [show ((m + 1 : Nat) : Int) = (m : Int) + 1 by omega]
        have h2 := h1.post (turnW n v)
        have h3 := (turn_past hn hD hv).pre (powB m D)
        have h4 := he.post D
        simp only [List.append_assoc] at h2 h3 h4
        exact h2.trans (h3.symm.trans (h4.trans (h1.symm.pre u)))
    obtain ⟨v, hv, hl, he⟩ := dn m u h
    refine ⟨v, hv, hl, ?_⟩
    have h0 := powB_neg hD.lt (-(m : Int))
    have h1 := powB_neg hD.lt (m : Int)
    rw [Int.neg_neg] at h0
    have h2 := BE.ctx (powB (-(m : Int)) D) (powB (-(m : Int)) D) he
    have h3 := h0.post (v ++ powB (-(m : Int)) D)
    have h4 := h1.pre (powB (-(m : Int)) D ++ u)
    simp only [List.append_assoc, List.nil_append, List.append_nil] at h2 h3 h4
    exact h4.symm.trans (h2.symm.trans h3)
  · obtain ⟨m, rfl⟩ : ∃ m : Nat, k = (m : Int) := ⟨k.natAbs, by omega⟩
    exact up m u h
theorem passL (hn : n ≤ 1000) (hD : IsUp n D (hf n)) (k : Int) {u : List Int} (h : PosW n u) : ∃ v, PosW n v ∧ v.length = u.length ∧ BE n (u ++ powB k D) (powB k D ++ v) := by
  obtain ⟨v, hv, hl, he⟩ := passR hn hD (-k) h
  refine ⟨v, hv, hl, ?_⟩
  have h0 := powB_neg hD.lt k
  have h1 := powB_neg hD.lt (-k)
  rw [Int.neg_neg] at h1
  have h2 := BE.ctx (powB k D) (powB k D) he
  have h3 := h0.post (u ++ powB k D)
  have h4 := h1.pre (powB k D ++ v)
  simp only [List.append_assoc, List.nil_append, List.append_nil] at h2 h3 h4
  exact h3.symm.trans (h2.trans h4)
/-- A letter divides the half twist. -/
theorem half_div (hn : n ≤ 1000) (hD : IsUp n D (hf n)) {i : Nat} (hi : i + 1 < n) : ∃ d, PosW n d ∧ BE n D (ltr i :: d) := by
  have hH := pn_hf (n := n) hn
  obtain ⟨d, hd⟩ := up_exists hn (swapAt (hf n) i) (hH.swapAt hi)
  exact ⟨d, hd.posW, mats hn hD (front2 hn hH hi (dn_hf hi) hd)⟩
/-- How many letters are negative. -/
def negN (w : List Int) : Nat := w.countP fun x => decide (x < 0)
def posN (w : List Int) : Nat := w.countP fun x => decide (0 < x)
theorem negN_inv (w : List Int) : negN (invB w) = posN w := by
  unfold negN posN invB
  rw [List.countP_reverse, List.countP_map]
  congr 1
  funext x
  simp
theorem posN_inv (w : List Int) : posN (invB w) = negN w := by rw [← negN_inv, invB_invB]
theorem negN_append (a b : List Int) : negN (a ++ b) = negN a + negN b := by simp [negN]
theorem posN_append (a b : List Int) : posN (a ++ b) = posN a + posN b := by simp [posN]
theorem ex_count {w : List Int} (h : ∀ x ∈ w, LtB n x) : exB w = posN w - negN w ∧ posN w + negN w = w.length := by
  induction w with
  | nil => exact ⟨rfl, rfl⟩
  | cons x w ih =>
    have h1 := ih fun y hy => h y (by simp [hy])
    have h2 := (h x (by simp)).1
    unfold exB posN negN at *
    rw [List.map_cons, List.sum_cons, List.countP_cons, List.countP_cons, List.length_cons]
    rcases Int.lt_or_lt_of_ne h2 with hx | hx
    · rw [Int.sign_eq_neg_one_of_neg hx, if_neg (by simp; omega), if_pos (by simp; omega)]; omega
    · rw [Int.sign_eq_one_of_pos hx, if_pos (by simp; omega), if_neg (by simp; omega)]; omega
/-- A word is a positive word, then a negative power of the half twist. -/
theorem word_low (hn : n ≤ 1000) (hD : IsUp n D (hf n)) {w : List Int} (h : ∀ x ∈ w, LtB n x) : ∃ u, PosW n u ∧ BE n w (u ++ powB (-(negN w : Int)) D) := by
  induction w with
  | nil => exact ⟨[], posW_nil, .refl _⟩
  | cons x w ih =>
    obtain ⟨u, hu, he⟩ := ih fun y hy => h y (by simp [hy])
    have hx := h x (by simp)
    have hx0 := hx.1; have hxn := hx.2
    have e0 : negN (x :: w) = (if x < 0 then 1 else 0) + negN w := by unfold negN; rw [List.countP_cons]; simp; omega
    rcases Int.lt_or_lt_of_ne hx0 with hneg | hpos
    · rw [e0, if_pos hneg]
      obtain ⟨d, hd, hde⟩ := half_div hn hD (i := x.natAbs - 1) (by omega)
      have e1 : ltr (x.natAbs - 1) = -x := by unfold ltr; omega
      rw [e1] at hde
      -- x = d Δ^-1
      have h1 := (hde.pre [x]).symm
      have h2 := (BE.cancel (n := n) hx).post d
      have h3 := h1.symm.trans (by simpa using h2)
      -- [x] ++ D = d
      obtain ⟨v, hv, hvl, hve⟩ := passR hn hD (-1) hu
      refine ⟨d ++ v, hd.app hv, ?_⟩
      have h4 := he.pre [x]
      have h5 := powB_neg hD.lt 1
      have e2 : powB 1 D = D := by simp [powB]
      rw [e2] at h5
      have h6 := BE.ctx [x] (u ++ powB (-(negN w : Int)) D) h5
      have h7 := h3.post (powB (-1) D ++ u ++ powB (-(negN w : Int)) D)
      have h8 := BE.ctx d (powB (-(negN w : Int)) D) hve
      have h9 := (powB_add hD.lt (-1) (-(negN w : Int))).pre (d ++ v)
      rw [show (-1 : Int) + -(negN w : Int) = -((1 + negN w : Nat) : Int) by omega] at h9
      simp only [List.append_assoc, List.cons_append, List.nil_append, List.append_nil] at h4 h6 h7 h8 h9 ⊢
      exact h4.trans (h6.symm.trans (h7.trans (h8.trans h9.symm)))
    · rw [e0, if_neg (by omega), Nat.zero_add]
      exact ⟨x :: u, .cons ⟨hpos, by omega⟩ hu, by have := he.pre [x]; simpa using this⟩
theorem le_pow (hD : IsUp n D (hf n)) {a b : Int} (h : a ≤ b) (z : List Int) : LeB n (z ++ powB a D) (z ++ powB b D) := by
  refine LeB.pre z ⟨powB (b - a) D, powB_pos hD.posW (by omega), ?_⟩
  have := powB_add hD.lt a (b - a)
  rw [show a + (b - a) = b by omega] at this
  exact this.symm
/-- Powers to the other side. -/
theorem le_shift (hn : n ≤ 1000) (hD : IsUp n D (hf n)) {x y : List Int} {k : Int} (h : LeB n x (y ++ powB k D)) : LeB n (x ++ powB (-k) D) y := by
  obtain ⟨t, ht, h⟩ := h
  obtain ⟨v, hv, _, he⟩ := passL hn hD (-k) ht
  refine ⟨v, hv, ?_⟩
  have h1 := he.pre x
  have h2 := h.post (powB (-k) D)
  have h3 := (powB_neg hD.lt k).pre y
  simp only [List.append_assoc, List.append_nil] at h1 h2 h3 ⊢
  exact h1.symm.trans (h2.trans h3)
theorem le_unshift (hn : n ≤ 1000) (hD : IsUp n D (hf n)) {x y : List Int} {k : Int} (h : LeB n (x ++ powB (-k) D) y) : LeB n x (y ++ powB k D) := by
  obtain ⟨t, ht, h⟩ := h
  obtain ⟨v, hv, _, he⟩ := passL hn hD k ht
  refine ⟨v, hv, ?_⟩
  have h0 := powB_neg hD.lt (-k)
  rw [Int.neg_neg] at h0
  have h1 := (he.pre (x ++ powB (-k) D))
  have h2 := h.post (powB k D)
  have h3 := (h0.post v).pre x
  simp only [List.append_assoc, List.nil_append] at h1 h2 h3 ⊢
  exact h3.symm.trans (h1.symm.trans h2)
/-- A word lies above a negative power and below a positive one. -/
theorem word_above (hn : n ≤ 1000) (hD : IsUp n D (hf n)) {w : List Int} (h : ∀ x ∈ w, LtB n x) {m : Int} (hm : (negN w : Int) ≤ m) : LeB n (powB (-m) D) w := by
  obtain ⟨u, hu, he⟩ := word_low hn hD h
  obtain ⟨v, hv, _, hve⟩ := passL hn hD (-(negN w : Int)) hu
  have h1 : LeB n (powB (-(negN w : Int)) D) w := ⟨v, hv, (he.trans hve).symm⟩
  have h2 := le_pow hD (a := -m) (b := -(negN w : Int)) (by omega) []
  exact LeB.trans h2 h1
theorem word_below (hn : n ≤ 1000) (hD : IsUp n D (hf n)) {w : List Int} (h : ∀ x ∈ w, LtB n x) {m : Int} (hm : (posN w : Int) ≤ m) : LeB n w (powB m D) := by
  obtain ⟨u, hu, he⟩ := word_low hn hD (invB_lt h)
  rw [negN_inv] at he
  have h1 : LeB n w (powB (posN w : Int) D) := by
    refine ⟨u, hu, ?_⟩
    have h2 := he.post (powB (posN w : Int) D)
    have h3 := (BE.mulInv h).post (powB (posN w : Int) D)
    have h4 := h2.pre w
    have h5 := powB_neg hD.lt (-(posN w : Int))
    rw [Int.neg_neg] at h5
    have h6 := h5.pre (w ++ u)
    simp only [List.append_assoc, List.nil_append, List.append_nil] at h2 h3 h4 h6 ⊢
    exact h6.symm.trans (h4.symm.trans h3)
  exact h1.trans (le_pow hD hm [])
end
end Go.Proofs.Ytnmklkjlcpgjmaa


/- Braids as powers of the half twist and factors: the normal form depends on the braid alone. No program. -/
import Derived.Test.YtnkahkahcajahaaGarTwist
import Derived.Test.YtnkahkahcajahaaArtinGroup
namespace Go.Proofs.Ytnkahkahcajahaa
open Go.RowKit Go.Sl

abbrev St := Int × List (List Int)
inductive Eqv (n : Nat) : St → St → Prop
  | refl (s : St) : Eqv n s s
  | symm {s t : St} (h : Eqv n s t) : Eqv n t s
  | trans {s t u : St} (h : Eqv n s t) (k : Eqv n t u) : Eqv n s u
  | step (k : Int) {F G : List (List Int)} (g : Good n F) (h : Step n F G) : Eqv n (k, F) (k, G)
  | trail (k : Int) {F : List (List Int)} (g : Good n F) : Eqv n (k, F ++ [iota n]) (k, F)
  | half (k : Int) {F : List (List Int)} (g : Good n F) : Eqv n (k, hf n :: F) (k + 1, F)

section
variable {n : Nat}
theorem good_one (hn : n ≤ 1000) {a : List Int} (h : Pn n a) : Good n [a] := .cons h (good_nil n)
theorem eqv_reach {F G : List (List Int)} (k : Int) (h : Reach n F G) : Good n F → Eqv n (k, F) (k, G) := by
  induction h with
  | refl F => exact fun _ => .refl _
  | head h _ ih => exact fun g => .trans (.step k g h) (ih (h.good g))
theorem eqv_good (hn : n ≤ 1000) {s t : St} (h : Eqv n s t) : Good n s.2 ↔ Good n t.2 := by
  induction h with
  | refl => exact Iff.rfl
  | symm _ ih => exact ih.symm
  | trans _ _ ih1 ih2 => exact ih1.trans ih2
  | step k g h => exact ⟨fun _ => h.good g, fun _ => g⟩
  | trail k g => exact ⟨fun _ => g, fun _ => g.app (good_one hn (pn_iota hn))⟩
  | half k g => exact ⟨fun _ => g, fun _ => .cons (pn_hf hn) g⟩

/-- Without half twists and identities. -/
def strip (n : Nat) (k : Int) (T : List (List Int)) : St := (k + T.count (hf n), T.filter fun p => decide (p ≠ hf n ∧ p ≠ iota n))
def Cn (n : Nat) (s c : St) : Prop := Good n s.2 ∧ ∃ T, Reach n s.2 T ∧ Tight n T ∧ c = strip n s.1 T
theorem cn_exists {s : St} (g : Good n s.2) : ∃ c, Cn n s c := by
  obtain ⟨T, h, t⟩ := exists_tight (n := n) _ s.2 (Nat.le_refl _) g
  exact ⟨_, g, T, h, t, rfl⟩
theorem cn_unique {s c d : St} (h : Cn n s c) (k : Cn n s d) : c = d := by
  obtain ⟨g, T, h1, h2, rfl⟩ := h
  obtain ⟨_, S, k1, k2, rfl⟩ := k
  rw [unique _ _ (Nat.le_refl _) g T S h1 h2 k1 k2]
theorem hf_ne_iota (h2 : 2 ≤ n) : hf n ≠ iota n := fun e => by
  have := congrArg (fun l => nth l 0) e
  rw [nth_hf (by omega), nth_iota _ _ (by omega)] at this
  omega
theorem strip_iota (h2 : 2 ≤ n) (k : Int) (T : List (List Int)) : strip n k (T ++ [iota n]) = strip n k T := by
  unfold strip
  have h1 : (T ++ [iota n]).count (hf n) = T.count (hf n) := by
    rw [List.count_append, List.count_cons_of_ne (fun e => hf_ne_iota h2 e.symm)]; simp
  rw [h1, List.filter_append]
  simp
theorem strip_hf (k : Int) (T : List (List Int)) : strip n k (hf n :: T) = strip n (k + 1) T := by
  unfold strip
  rw [List.count_cons_self, List.filter_cons]
  simp; omega
theorem eqv_cn (hn : n ≤ 1000) (h2 : 2 ≤ n) {s t : St} (h : Eqv n s t) : ∀ c, Cn n s c ↔ Cn n t c := by
  induction h with
  | refl => exact fun _ => Iff.rfl
  | symm _ ih => exact fun c => (ih c).symm
  | trans _ _ ih1 ih2 => exact fun c => (ih1 c).trans (ih2 c)
  | step k g h =>
    intro c
    constructor
    · rintro ⟨_, T, r, t, e⟩; exact ⟨h.good g, T, same_end g (.one h) r t, t, e⟩
    · rintro ⟨_, T, r, t, e⟩; exact ⟨g, T, .head h r, t, e⟩
  | trail k g =>
    rename_i F
    intro c
    obtain ⟨T, r, t⟩ := exists_tight (n := n) _ F (Nat.le_refl _) g
    have g' := g.app (good_one hn (pn_iota hn))
    have c1 : Cn n (k, F) (strip n k T) := ⟨g, T, r, t, rfl⟩
    have c2 : Cn n (k, F ++ [iota n]) (strip n k T) := ⟨g', T ++ [iota n], r.post _, tight_iota t, (strip_iota h2 k T).symm⟩
    exact ⟨fun h => by rw [cn_unique h c2]; exact c1, fun h => by rw [cn_unique h c1]; exact c2⟩
  | half k g =>
    rename_i F
    intro c
    obtain ⟨T, r, t⟩ := exists_tight (n := n) _ F (Nat.le_refl _) g
    have c1 : Cn n (k + 1, F) (strip n (k + 1) T) := ⟨g, T, r, t, rfl⟩
    have c2 : Cn n (k, hf n :: F) (strip n (k + 1) T) := ⟨.cons (pn_hf hn) g, hf n :: T, r.cons _, tight_hf hn t, (strip_hf k T).symm⟩
    exact ⟨fun h => by rw [cn_unique h c2]; exact c1, fun h => by rw [cn_unique h c1]; exact c2⟩

/-! A tight sequence begins with its half twists, and ends with its identities. -/
theorem tight_lead (hn : n ≤ 1000) {a : List Int} {T : List (List Int)} (g : Good n (a :: T)) (t : Tight n (a :: T)) (h : a ≠ hf n) : hf n ∉ T := by
  induction T generalizing a with
  | nil => simp
  | cons b T ih =>
    have hb : b ≠ hf n := fun e => by
      subst e
      exact h (hf_of hn g.hd fun i hi => t.pair i hi (dn_hf hi))
    intro hm
    rcases List.mem_cons.1 hm with hm | hm
    · exact hb hm.symm
    · exact ih g.tl t.tl hb hm
theorem tight_last (hn : n ≤ 1000) {T : List (List Int)} (g : Good n (iota n :: T)) (t : Tight n (iota n :: T)) : T = List.replicate T.length (iota n) := by
  induction T with
  | nil => rfl
  | cons b T ih =>
    have hb : b = iota n := by
      refine iota_of g.tl.hd fun i hi => ?_
      have : ¬ dn b i := fun hd => t.pair i hi hd (up_iota hn hi)
      -- no crossing at the beginning: none at all
      exact Classical.byContradiction fun hu => by
        have hall : ∀ i, i + 1 < n → up (backL b) i := fun i hi => by
          unfold up
          rw [back_back g.tl.hd]
          exact (dn_or g.tl.hd hi).resolve_left (fun hd => t.pair i hi hd (up_iota hn hi))
        have e := iota_of g.tl.hd.back hall
        unfold up at hu
        rw [e, nth_iota _ _ hi, nth_iota _ _ (by omega)] at hu
        omega
    subst hb
    have := ih g.tl t.tl
    rw [List.length_cons, List.replicate_succ, ← this]
theorem eqv_iotas {F : List (List Int)} (hn : n ≤ 1000) (g : Good n F) (k : Int) : ∀ m, Eqv n (k, F ++ List.replicate m (iota n)) (k, F) := by
  intro m
  induction m with
  | zero => simp; exact .refl _
  | succ m ih =>
    rw [List.replicate_succ', ← List.append_assoc]
    refine .trans (.trail k (g.app fun x hx => ?_)) ih
    rw [List.eq_of_mem_replicate hx]; exact pn_iota hn
theorem tight_ones (hn : n ≤ 1000) : ∀ T : List (List Int), Good n T → Tight n T → ∃ U m, T = U ++ List.replicate m (iota n) ∧ iota n ∉ U := by
  intro T
  induction T with
  | nil => intro _ _; exact ⟨[], 0, rfl, by simp⟩
  | cons a T ih =>
    intro g t
    by_cases e : a = iota n
    · subst e
      have := tight_last hn g t
      exact ⟨[], T.length + 1, by rw [List.nil_append, List.replicate_succ, ← this], by simp⟩
    · obtain ⟨U, m, h1, h2⟩ := ih g.tl t.tl
      exact ⟨a :: U, m, by rw [h1]; rfl, fun hm => by
        rcases List.mem_cons.1 hm with h | h
        · exact e h.symm
        · exact h2 h⟩
theorem eqv_strip (hn : n ≤ 1000) (h2 : 2 ≤ n) : ∀ (T : List (List Int)) (k : Int), Good n T → Tight n T → Eqv n (k, T) (strip n k T) := by
  intro T
  induction T with
  | nil => intro k _ _; unfold strip; simp; exact .refl _
  | cons a T ih =>
    intro k g t
    by_cases e : a = hf n
    · subst e
      rw [strip_hf]
      exact .trans (.half k g.tl) (ih (k + 1) g.tl t.tl)
    · have hno := tight_lead hn g t e
      obtain ⟨U, m, h1, h3⟩ := tight_ones hn (a :: T) g t
      have hc : (a :: T).count (hf n) = 0 := List.count_eq_zero.2 (fun hm => by
        rcases List.mem_cons.1 hm with h | h
        · exact e h.symm
        · exact hno h)
      have hU : Good n U := fun x hx => g x (by rw [h1]; simp [hx])
      have hf' : (a :: T).filter (fun p => decide (p ≠ hf n ∧ p ≠ iota n)) = U := by
        rw [h1, List.filter_append, List.filter_eq_self.2, List.filter_eq_nil_iff.2, List.append_nil]
        · intro x hx
          rw [List.eq_of_mem_replicate hx]; simp
        · intro x hx
          simp only [decide_eq_true_eq]
          refine ⟨fun hx2 => ?_, fun hx2 => h3 (hx2 ▸ hx)⟩
          have : x ∈ a :: T := by rw [h1]; simp [hx]
          rw [hx2] at this
          exact (List.count_eq_zero.1 hc) this
      unfold strip
      rw [hc, hf', h1]
      have := eqv_iotas hn hU k m
      simpa using this
theorem cn_eqv (hn : n ≤ 1000) (h2 : 2 ≤ n) {s c : St} (h : Cn n s c) : Eqv n s c := by
  obtain ⟨g, T, r, t, rfl⟩ := h
  exact .trans (eqv_reach s.1 r g) (eqv_strip hn h2 T s.1 (r.good g) t)

/-! Letters. -/
def dgP (n i : Nat) : List Int := swapV (hf n) i
theorem pn_dg {i : Nat} (hn : n ≤ 1000) (hi : i + 1 < n) : Pn n (dgP n i) := (pn_hf hn).swapV hi
def mulS (n : Nat) (s : St) (x : Int) : St := if 0 < x then (s.1, s.2 ++ [sgP n (x.natAbs - 1)]) else (s.1 - 1, s.2.map (turnP n) ++ [dgP n (x.natAbs - 1)])
/-- A letter of n strands. -/
def Lt (n : Nat) (x : Int) : Prop := x ≠ 0 ∧ x.natAbs < n
theorem mulS_good (hn : n ≤ 1000) {s : St} {x : Int} (hx : Lt n x) (g : Good n s.2) : Good n (mulS n s x).2 := by
  obtain ⟨h0, h1⟩ := hx
  unfold mulS
  split
  · exact g.app (good_one hn (pn_sg hn (by omega)))
  · exact (good_turn g).app (good_one hn (pn_dg hn (by omega)))
theorem eqv_mul (hn : n ≤ 1000) {x : Int} (hx : Lt n x) {s t : St} (h : Eqv n s t) : Eqv n (mulS n s x) (mulS n t x) := by
  obtain ⟨h0, h1⟩ := hx
  have hi : x.natAbs - 1 + 1 < n := by omega
  induction h with
  | refl => exact .refl _
  | symm _ ih => exact .symm ih
  | trans _ _ ih1 ih2 => exact .trans ih1 ih2
  | step k g h =>
    unfold mulS
    split
    · exact .step k (g.app (good_one hn (pn_sg hn hi))) (h.post _)
    · exact .step _ ((good_turn g).app (good_one hn (pn_dg hn hi))) ((step_turn h g).post _)
  | trail k g =>
    rename_i F
    have go : ∀ (k : Int) {F : List (List Int)} (d : List Int), Good n F → Pn n d → Eqv n (k, F ++ [iota n] ++ [d]) (k, F ++ [d]) := by
      intro k F d g hd
      have r : Reach n ([iota n] ++ [d]) ([d] ++ [iota n]) := by
        have := rp hn (pn_iota hn) d hd (by rw [iota_then hd, inv_iota]; omega)
        rwa [iota_then hd] at this
      have r2 := r.pre F
      rw [← List.append_assoc, ← List.append_assoc] at r2
      exact .trans (eqv_reach k r2 ((g.app (good_one hn (pn_iota hn))).app (good_one hn hd))) (.trail k (g.app (good_one hn hd)))
    unfold mulS
    split
    · exact go k _ g (pn_sg hn hi)
    · simp only [List.map_append, List.map_cons, List.map_nil, turn_iota]
      exact go _ _ (good_turn g) (pn_dg hn hi)
  | half k g =>
    unfold mulS
    split
    · exact .half k (g.app (good_one hn (pn_sg hn hi)))
    · simp only [List.map_cons, turn_hf, List.cons_append]
      have := Eqv.half (n := n) (k - 1) ((good_turn g).app (good_one hn (pn_dg hn hi)))
      rwa [show k - 1 + 1 = k + 1 - 1 by omega] at this
def mulW (n : Nat) (s : St) (w : List Int) : St := w.foldl (mulS n) s
theorem mulW_append (s : St) (a b : List Int) : mulW n s (a ++ b) = mulW n (mulW n s a) b := by unfold mulW; rw [List.foldl_append]
theorem mulW_good (hn : n ≤ 1000) (w : List Int) : ∀ s : St, (∀ x ∈ w, Lt n x) → Good n s.2 → Good n (mulW n s w).2 := by
  induction w with
  | nil => exact fun _ _ g => g
  | cons x w ih => exact fun s h g => ih _ (fun y hy => h y (by simp [hy])) (mulS_good hn (h x (by simp)) g)
theorem eqv_mulW (hn : n ≤ 1000) (w : List Int) : ∀ {s t : St}, (∀ x ∈ w, Lt n x) → Eqv n s t → Eqv n (mulW n s w) (mulW n t w) := by
  induction w with
  | nil => exact fun _ h => h
  | cons x w ih => exact fun h k => ih (fun y hy => h y (by simp [hy])) (eqv_mul hn (h x (by simp)) k)

/-- A letter and its inverse. -/
theorem swapAt_hf {j : Nat} (hn : n ≤ 1000) (hj : j + 1 < n) : swapAt (hf n) j = swapV (hf n) (n - 2 - j) := by
  refine ext_nth (by simp [swapAt_length, swapV_length]) fun q hq => ?_
  rw [swapAt_length, hf_length] at hq
  rw [nsw (pn_hf hn) hj, nth_hf (swN_lt hj hq), nth_swapV _ _ _ (by rw [hf_length]; exact hq), nth_hf hq]
  unfold swN swV; grind
theorem half_end (hn : n ≤ 1000) {F : List (List Int)} (g : Good n F) (k : Int) : Eqv n (k, F ++ [hf n]) (k + 1, F.map (turnP n)) :=
  .trans (eqv_reach k (half_front hn F g) (g.app (good_one hn (pn_hf hn)))) (.half k (good_turn g))
theorem cancel (hn : n ≤ 1000) {x : Int} (hx : Lt n x) {s : St} (g : Good n s.2) : Eqv n (mulS n (mulS n s x) (-x)) s := by
  obtain ⟨h0, h1⟩ := hx
  obtain ⟨k, F⟩ := s
  have hi : x.natAbs - 1 + 1 < n := by omega
  have hit : n - 2 - (x.natAbs - 1) + 1 < n := by omega
  have gt := good_turn g
  have fin : Eqv n (k - 1, F.map (turnP n) ++ [hf n]) (k, F) := by
    have := half_end hn gt (k - 1)
    rwa [map_turn_turn g, show k - 1 + 1 = k by omega] at this
  have inA : ∀ {A : List (List Int)}, Good n A → Reach n A [hf n, iota n] → Eqv n (k - 1, F.map (turnP n) ++ A) (k, F) := by
    intro A gA r
    have r2 := r.pre (F.map (turnP n))
    refine .trans (eqv_reach (k - 1) r2 (gt.app gA)) ?_
    have : F.map (turnP n) ++ [hf n, iota n] = F.map (turnP n) ++ [hf n] ++ [iota n] := by simp
    rw [this]
    exact .trans (.trail _ (gt.app (good_one hn (pn_hf hn)))) fin
  by_cases hp : 0 < x
  · unfold mulS
    rw [if_pos hp, if_neg (by omega), Int.natAbs_neg]
    simp only [List.map_append, List.map_cons, List.map_nil, List.append_assoc, List.cons_append, List.nil_append]
    have ht : turnP n (sgP n (x.natAbs - 1)) = sgP n (n - 2 - (x.natAbs - 1)) := by
      unfold sgP; rw [turn_swapV (pn_iota hn) hi, turn_iota]
    rw [ht]
    have e1 : thenL (sgP n (n - 2 - (x.natAbs - 1))) (dgP n (x.natAbs - 1)) = hf n := by
      unfold dgP
      rw [thenL_swapV (pn_sg hn hit) (pn_hf hn)]
      have e2 : thenL (sgP n (n - 2 - (x.natAbs - 1))) (hf n) = swapV (hf n) (x.natAbs - 1) := by
        unfold sgP
        have h3 := thenL_swap (pn_iota hn) ((pn_hf hn).swapAt hit) hit
        rw [swapAt_swapAt _ _ (by rw [hf_length]; exact hit), iota_then ((pn_hf hn).swapAt hit), swapAt_hf hn hit] at h3
        rw [h3, show n - 2 - (n - 2 - (x.natAbs - 1)) = x.natAbs - 1 by omega]
      rw [e2, swapV_swapV]
    have r := rp hn (pn_sg hn hit) (dgP n (x.natAbs - 1)) (pn_dg hn hi) (by
      rw [e1, inv_sg hn hit]
      have := inv_hf_up hn hi
      unfold dgP; omega)
    rw [e1] at r
    exact inA (.cons (pn_sg hn hit) (good_one hn (pn_dg hn hi))) r
  · unfold mulS
    rw [if_neg hp, if_pos (by omega), Int.natAbs_neg]
    simp only [List.append_assoc, List.cons_append, List.nil_append]
    have r : Reach n [dgP n (x.natAbs - 1), sgP n (x.natAbs - 1)] [hf n, iota n] := by
      have hu : up (dgP n (x.natAbs - 1)) (x.natAbs - 1) := up_swapV (pn_hf hn) hi ((up_or (pn_hf hn) hi).resolve_left (not_up_hf hn hi))
      have := Step.here (n := n) (b := sgP n (x.natAbs - 1)) [] hi hu (dn_sg hi)
      rw [swapAt_sg hi] at this
      unfold dgP at this ⊢
      rw [swapV_swapV] at this
      exact .one this
    exact inA (.cons (pn_dg hn hi) (good_one hn (pn_sg hn hi))) r
theorem cancel' (hn : n ≤ 1000) {x : Int} (hx : Lt n x) {s : St} (g : Good n s.2) : Eqv n (mulS n (mulS n s (-x)) x) s := by
  have := cancel hn (x := -x) ⟨by have := hx.1; omega, by rw [Int.natAbs_neg]; exact hx.2⟩ g
  rwa [Int.neg_neg] at this

/-- A crossing added to a factor. -/
theorem add_one (hn : n ≤ 1000) {a : List Int} {i : Nat} (ha : Pn n a) (hi : i + 1 < n) (hu : up a i) : Reach n [a, sgP n i] [swapV a i, iota n] := by
  have := Step.here (n := n) (b := sgP n i) [] hi hu (dn_sg hi)
  rw [swapAt_sg hi] at this
  exact .one this
/-- Positive letters that are far apart. -/
theorem far_mul (hn : n ≤ 1000) {i j : Nat} (hi : i + 1 < n) (hj : j + 1 < n) (h : i + 1 < j ∨ j + 1 < i) {s : St} (g : Good n s.2) :
    Eqv n (mulW n s [(i : Int) + 1, (j : Int) + 1]) (mulW n s [(j : Int) + 1, (i : Int) + 1]) := by
  have one : ∀ i j : Nat, i + 1 < n → j + 1 < n → (i + 1 < j ∨ j + 1 < i) → Eqv n (mulW n s [(i : Int) + 1, (j : Int) + 1]) (s.1, s.2 ++ [swapV (sgP n i) j] ++ [iota n]) := by
    intro i j hi hj h
    have e1 : ((i : Int) + 1).natAbs - 1 = i := by omega
    have e2 : ((j : Int) + 1).natAbs - 1 = j := by omega
    simp only [mulW, List.foldl_cons, List.foldl_nil, mulS, e1, e2]
    rw [if_pos (by omega), if_pos (by omega)]
    have hu : up (sgP n i) j := (up_far (pn_iota hn) hi h).2 (up_iota hn hj)
    have r := (add_one hn (pn_sg hn hi) hj hu).pre s.2
    have := eqv_reach s.1 r (g.app (.cons (pn_sg hn hi) (good_one hn (pn_sg hn hj))))
    simpa using this
  refine .trans (one i j hi hj h) (.symm (.trans (one j i hj hi h.symm) ?_))
  unfold sgP
  rw [swapV_far h]
  exact .refl _
/-- Positive letters of neighbours. -/
theorem braid_mul (hn : n ≤ 1000) {i : Nat} (hi : i + 1 + 1 < n) {s : St} (g : Good n s.2) :
    Eqv n (mulW n s [(i : Int) + 1, (i : Int) + 1 + 1, (i : Int) + 1]) (mulW n s [(i : Int) + 1 + 1, (i : Int) + 1, (i : Int) + 1 + 1]) := by
  have h0 : i + 1 < n := by omega
  have hp := pn_iota hn
  obtain ⟨u1, u2, u3, u4⟩ := up_next hp hi (up_iota hn h0) (up_iota hn hi)
  have three : ∀ i j : Nat, i + 1 < n → j + 1 < n → up (sgP n i) j → up (swapV (sgP n i) j) i →
      Eqv n (mulW n s [(i : Int) + 1, (j : Int) + 1, (i : Int) + 1]) (s.1, s.2 ++ [swapV (swapV (sgP n i) j) i, iota n, iota n]) := by
    intro i j hi hj hu hu2
    have e1 : ((i : Int) + 1).natAbs - 1 = i := by omega
    have e2 : ((j : Int) + 1).natAbs - 1 = j := by omega
    simp only [mulW, List.foldl_cons, List.foldl_nil, mulS, e1, e2]
    rw [if_pos (by omega), if_pos (by omega)]
    have ps := pn_sg hn hi
    have r1 : Reach n [sgP n i, sgP n j, sgP n i] [swapV (sgP n i) j, iota n, sgP n i] := (add_one hn ps hj hu).post [sgP n i]
    have r2 : Reach n [swapV (sgP n i) j, iota n, sgP n i] [swapV (sgP n i) j, sgP n i, iota n] := by
      have := (rp hn hp (sgP n i) ps (by rw [iota_then ps, inv_iota]; omega)).cons (swapV (sgP n i) j)
      rwa [iota_then ps] at this
    have r3 : Reach n [swapV (sgP n i) j, sgP n i, iota n] [swapV (swapV (sgP n i) j) i, iota n, iota n] := (add_one hn (ps.swapV hj) hi hu2).post [iota n]
    have := eqv_reach s.1 ((r1.trans (r2.trans r3)).pre s.2) (g.app (.cons ps (.cons (pn_sg hn hj) (good_one hn ps))))
    simpa using this
  have c1 := three i (i + 1) h0 hi u1 u2
  have c2 := three (i + 1) i hi h0 u3 u4
  rw [show ((i + 1 : Nat) : Int) = (i : Int) + 1 by omega] at c1 c2
  refine .trans c1 (.symm (.trans c2 ?_))
  unfold sgP
  rw [← swapV_braid]
  exact .refl _
/-- The two sides of a relation. -/
theorem sides_mul (hn : n ≤ 1000) {P Q : Int} (hP : 1 ≤ P ∧ P < n) (hQ : 1 ≤ Q ∧ Q < n) {s : St} (g : Good n s.2) : Eqv n (mulW n s (sidesL P Q).1) (mulW n s (sidesL P Q).2) := by
  obtain ⟨a, rfl⟩ : ∃ a : Nat, P = (a : Int) + 1 := ⟨(P - 1).toNat, by omega⟩
  obtain ⟨b, rfl⟩ : ∃ b : Nat, Q = (b : Int) + 1 := ⟨(Q - 1).toNat, by omega⟩
  unfold sidesL
  by_cases h1 : (a : Int) + 1 - (b + 1) = 1 ∨ (b : Int) + 1 - (a + 1) = 1
  · rw [if_pos h1]
    rcases h1 with h1 | h1
    · obtain rfl : a = b + 1 := by omega
      have := braid_mul hn (i := b) (by omega) g
      rw [show ((b + 1 : Nat) : Int) = (b : Int) + 1 by omega]
      exact .symm this
    · obtain rfl : b = a + 1 := by omega
      have := braid_mul hn (i := a) (by omega) g
      rw [show ((a + 1 : Nat) : Int) = (a : Int) + 1 by omega]
      exact this
  · rw [if_neg h1]
    have la : Lt n ((a : Int) + 1) := ⟨by omega, by omega⟩
    have lb : Lt n ((b : Int) + 1) := ⟨by omega, by omega⟩
    have lb' : Lt n (-((b : Int) + 1)) := ⟨by omega, by omega⟩
    by_cases h2 : (a : Int) + 1 = b + 1
    · rw [if_pos h2]
      exact cancel hn la g
    · rw [if_neg h2]
      have g1 := mulS_good hn lb' g
      -- s is s' b, with s' = s b^-1
      have e1 : Eqv n s (mulS n (mulS n s (-((b : Int) + 1))) ((b : Int) + 1)) := .symm (cancel' hn lb g)
      have e2 := eqv_mulW hn [(a : Int) + 1, -((b : Int) + 1)] (fun x hx => by simp at hx; rcases hx with rfl | rfl; exact la; exact lb') e1
      refine .trans e2 ?_
      have e3 := far_mul hn (i := b) (j := a) (by omega) (by omega) (by omega) g1
      have e4 := eqv_mul hn lb' e3
      have e5 := cancel hn lb (mulS_good hn la g1)
      exact .trans e4 e5

/-! The exponent. -/
def expS (n : Nat) (s : St) : Int := s.1 * (inv (hf n) : Int) + (tot s.2 : Int)
theorem tot_append (F G : List (List Int)) : tot (F ++ G) = tot F + tot G := by
  induction F with
  | nil => simp [tot]
  | cons a F ih => rw [List.cons_append, tot, tot, ih]; omega
theorem tot_turn (hn : n ≤ 1000) (F : List (List Int)) : Good n F → tot (F.map (turnP n)) = tot F := by
  induction F with
  | nil => intro _; rfl
  | cons a F ih => intro g; rw [List.map_cons, tot, tot, ih g.tl, inv_turn hn a g.hd]
theorem eqv_exp {s t : St} (h : Eqv n s t) : expS n s = expS n t := by
  induction h with
  | refl => rfl
  | symm _ ih => exact ih.symm
  | trans _ _ ih1 ih2 => exact ih1.trans ih2
  | step k g h => unfold expS; rw [h.tot g]
  | trail k g => unfold expS; rw [tot_append]; simp [tot, inv_iota]
  | half k g => unfold expS; simp only [tot]; rw [Int.add_mul]; omega
end

end Go.Proofs.Ytnkahkahcajahaa

/- A sharper count of the vertices on a path: each step down of the meet adds only what is not above the letter. No program. -/
import Derived.Test.YtnmklkjlcpgjmaaQDehornoyRelations0
import Derived.Test.YtnmklkjlcpgjmaaQDehornoyRelations1
import Derived.Test.YtnmklkjlcpgjmaaQDehornoyRelations2
import Derived.Test.YtnmklkjlcpgjmaaQDehornoyRelations3
import Derived.Test.YtnmklkjlcpgjmaaQDehornoyRelations4

namespace Go.Proofs.Ytnmklkjlcpgjmaa
open Go.RowKit Go.Sl

/-- The vertex that a label stands for. -/
def vy (k : Nat) (e : Int) (q : List Int) : List Int := q ++ [-(e * (k : Int))]
def vv (y : LL) : Option (List Int) := match y.2 with
  | some (k, e, q) => some (vy k e q)
  | none => none
section
variable {n l r : Nat} {D A B : List Int} {X : List (List Int)}
theorem repX_congr {v v' : List Int} (h : BE n v v') : repX n X v = repX n X v' := by
  have key : ∀ (p q : List Int → Prop) (hp : Decidable (∃ x, p x)) (hq : Decidable (∃ x, q x)), p = q → (if h : ∃ x, p x then h.choose else []) = (if h : ∃ x, q x then h.choose else ([] : List Int)) := by
    rintro p _ hp hq rfl
    by_cases hh : ∃ x, p x
    · rw [dif_pos hh, dif_pos hh]
    · rw [dif_neg hh, dif_neg hh]
  unfold repX
  refine key _ _ _ _ (funext fun x => propext ⟨fun ⟨h1, h2⟩ => ⟨h1, h.symm.trans h2⟩, fun ⟨h1, h2⟩ => ⟨h1, h.trans h2⟩⟩)
structure MachR (n l r : Nat) (D A B : List Int) (X : List (List Int)) (V : List Int) (R : List LL) : Prop extends Mach n l A B X V R where
  rho : Rho n r D (V ++ fsts R)
  bel : ∀ R1 z k e q R2, R = R1 ++ (z, some (k, e, q)) :: R2 → Bel n r D (vy k e q) (V ++ fsts R1)
  pair : (R.filterMap vv).Pairwise fun a b => LeB n b (a ++ powB (r : Int) D)
  inb : ∀ R1 z k e q R2, R = R1 ++ (z, some (k, e, q)) :: R2 → InB n A B (vy k e q) ∧ repX n X q = q

theorem MachR.ltv {V : List Int} {R : List LL} (h : MachR n l r D A B X V R) (hX : Cover n A B X) {R1 R2 : List LL} {z : Int} {k : Nat} {e : Int} {q : List Int} (er : R = R1 ++ (z, some (k, e, q)) :: R2) : LtW n (vy k e q) := by
  obtain ⟨⟨he, hq, h0, hk⟩, _⟩ := h.js R1 z k e q R2 er
  refine (hX.1 q hq).app (lw1 ?_)
  rcases he with rfl | rfl
  · exact ⟨by omega, by omega⟩
  · exact ⟨by omega, by omega⟩
theorem MachR.shift {V : List Int} {y : LL} {R : List LL} (h : MachR n l r D A B X V (y :: R)) (hz : ¬ closeAt V y.1) : MachR n l r D A B X (V ++ [y.1]) R := by
  have e : (V ++ [y.1]) ++ fsts R = V ++ fsts (y :: R) := by rw [fsts_cons]; simp
  refine ⟨h.toMach.shift hz, by rw [e]; exact h.rho, fun R1 z k ε q R2 er => ?_, ?_, fun R1 z k ε q R2 er => h.inb (y :: R1) z k ε q R2 (by rw [er]; rfl)⟩
  · have := h.bel (y :: R1) z k ε q R2 (by rw [er]; rfl)
    rw [fsts_cons] at this
    simpa using this
  · refine h.pair.sublist (List.Sublist.filterMap _ (List.sublist_cons_self y R))
theorem MachR.del (hn : n ≤ 1000) (h2 : 2 ≤ n) (hD : IsUp n D (hf n)) (hA : LtW n A) (hX : Cover n A B X) {V : List Int} {y y' : LL} {R1 R2 : List LL} (h : MachR n l r D A B X V (R1 ++ y :: y' :: R2)) (hy : y'.1 = -y.1) : MachR n l r D A B X V (R1 ++ R2) := by
  obtain ⟨x, hx⟩ : ∃ x, y.1 = x := ⟨_, rfl⟩
  have hy0 := hy
  rw [hx] at hy
  have e1 : V ++ fsts (R1 ++ y :: y' :: R2) = (V ++ fsts R1) ++ (x :: [] ++ (-x) :: fsts R2) := by rw [fsts_append, fsts_cons, fsts_cons, hx, hy]; simp
  have e2 : V ++ fsts (R1 ++ R2) = (V ++ fsts R1) ++ (midW x [] ++ fsts R2) := by rw [fsts_append]; simp [midW]
  have hl := h.lt
  have hr := h.rho
  rw [e1] at hl hr
  have hM : ∀ z ∈ ([] : List Int), x.natAbs < z.natAbs := fun z hz => by simp at hz
  have ho : OneSign x [] := .inl fun z hz => by simp at hz
  have old : ∀ S1 z k ε q S2, R1 ++ R2 = S1 ++ (z, some (k, ε, q)) :: S2 → (∃ u, R1 ++ y :: y' :: R2 = S1 ++ (z, some (k, ε, q)) :: u) ∨ ∃ u, S1 = R1 ++ u ∧ R2 = u ++ (z, some (k, ε, q)) :: S2 := by
    intro S1 z k ε q S2 er
    rcases app_casesL er with ⟨u, a1, a2⟩ | ⟨u, a1, a2⟩
    · cases u with
      | nil =>
        rw [List.nil_append] at a2
        rw [List.append_nil] at a1
        exact .inr ⟨[], by rw [a1]; simp, a2.symm⟩
      | cons t u =>
        obtain ⟨rfl, a3⟩ := List.cons.inj a2
        exact .inl ⟨u ++ y :: y' :: R2, by rw [a1]; simp⟩
    · exact .inr ⟨u, a1, a2⟩
  refine ⟨h.toMach.del hn h2 hA hy0, by rw [e2]; exact (rw_handle' (r := r) hn h2 hD hl hM ho).2 hr, fun S1 z k ε q S2 er => ?_, h.pair.sublist (List.Sublist.filterMap _ ?_), fun S1 z k ε q S2 er => ?_⟩
  · rcases old S1 z k ε q S2 er with ⟨u, hu⟩ | ⟨u, a1, a2⟩
    · exact h.bel S1 z k ε q u hu
    · have e5 : R1 ++ y :: y' :: R2 = (R1 ++ y :: y' :: u) ++ (z, some (k, ε, q)) :: S2 := by rw [a2]; simp
      have hb := h.bel _ z k ε q S2 e5
      have lv := h.ltv hX e5
      have e3 : V ++ fsts (R1 ++ y :: y' :: u) = (V ++ fsts R1) ++ (x :: [] ++ (-x) :: fsts u) := by rw [fsts_append, fsts_cons, fsts_cons, hx, hy]; simp
      rw [e3] at hb
      have lu : LtW n ((V ++ fsts R1) ++ (x :: [] ++ (-x) :: fsts u)) := by
        have e6 : (V ++ fsts R1) ++ (x :: [] ++ (-x) :: fsts R2) = ((V ++ fsts R1) ++ (x :: [] ++ (-x) :: fsts u)) ++ fsts ((z, some (k, ε, q)) :: S2) := by rw [a2, fsts_append]; simp
        rw [e6] at hl
        exact hl.left
      have := (rw_handle' (r := r) hn h2 hD lu hM ho).1 _ lv hb
      rw [a1, fsts_append]
      simpa [midW] using this
  · refine List.Sublist.append (List.Sublist.refl R1) ?_
    exact (List.sublist_cons_self y' R2).trans (List.sublist_cons_self y (y' :: R2))
  · rcases old S1 z k ε q S2 er with ⟨u, hu⟩ | ⟨u, a1, a2⟩
    · exact h.inb S1 z k ε q u hu
    · exact h.inb (R1 ++ y :: y' :: u) z k ε q S2 (by rw [a2]; simp)
/-- Where a new letter stands. -/
theorem newL_split {x : Int} (M : List Int) : ∀ pre S1 t u, newL n X x pre M = S1 ++ t :: u → ∃ M1 y M2 b1 b2, M = M1 ++ y :: M2 ∧ midB x y = b1 ++ t.1 :: b2 ∧ fsts S1 = midW x M1 ++ b1 ∧ t.2 = some (x.natAbs, x.sign, repX n X (pre ++ M1 ++ [y])) := by
  induction M with
  | nil => intro _ S1 t u h; simp [newL] at h
  | cons y M ih =>
    intro pre S1 t u h
    rw [newL] at h
    rcases app_casesL h with ⟨v, a1, a2⟩ | ⟨v, a1, a2⟩
    · cases v with
      | nil =>
        rw [List.nil_append] at a2
        rw [List.append_nil] at a1
        obtain ⟨M1, y', M2, b1, b2, e1, e2, e3, e4⟩ := ih (pre ++ [y]) [] t u (by rw [← a2]; rfl)
        refine ⟨y :: M1, y', M2, b1, b2, by rw [e1]; rfl, e2, ?_, by rw [e4]; simp⟩
        rw [midW_cons, List.append_assoc, ← e3, ← a1]
        simp [fsts, Function.comp_def]
      | cons s v =>
        obtain ⟨rfl, a3⟩ := List.cons.inj a2
        have h1 := congrArg fsts a1
        rw [fsts_append, fsts_cons] at h1
        have h3 : fsts ((midB x y).map fun z => (z, some (x.natAbs, x.sign, repX n X (pre ++ [y])))) = midB x y := by simp [fsts, Function.comp_def]
        rw [h3] at h1
        have ht : t ∈ (midB x y).map fun z => (z, some (x.natAbs, x.sign, repX n X (pre ++ [y]))) := by rw [a1]; simp
        obtain ⟨z, _, rfl⟩ := List.mem_map.1 ht
        exact ⟨[], y, M, fsts S1, fsts v, rfl, h1, by simp [midW], by simp⟩
    · obtain ⟨M1, y', M2, b1, b2, e1, e2, e3, e4⟩ := ih (pre ++ [y]) v t u a2
      refine ⟨y :: M1, y', M2, b1, b2, by rw [e1]; rfl, e2, ?_, by rw [e4]; simp⟩
      rw [a1, fsts_append, e3, midW_cons]
      simp [fsts, Function.comp_def]
theorem newL_pair {x : Int} {K : List Int} (M : List Int) : ∀ pre, (∀ a u b, M = a ++ u ++ b → LeB n (vy x.natAbs x.sign (repX n X (pre ++ a ++ u))) (vy x.natAbs x.sign (repX n X (pre ++ a)) ++ K)) → ((newL n X x pre M).filterMap vv).Pairwise fun a b => LeB n b (a ++ K) := by
  induction M with
  | nil => intro pre _; simp [newL]
  | cons y M ih =>
    intro pre H
    rw [newL, List.filterMap_append, List.pairwise_append]
    have hb : ∀ t ∈ ((midB x y).map fun z => ((z, some (x.natAbs, x.sign, repX n X (pre ++ [y]))) : LL)).filterMap vv, t = vy x.natAbs x.sign (repX n X (pre ++ [y])) := fun t ht => by
      obtain ⟨s, hs, e⟩ := List.mem_filterMap.1 ht
      obtain ⟨z, _, rfl⟩ := List.mem_map.1 hs
      simpa [vv] using e.symm
    refine ⟨?_, ih (pre ++ [y]) fun a u b e => ?_, fun a ha b hb2 => ?_⟩
    · refine List.pairwise_iff_forall_sublist.2 fun {a b} hs => ?_
      have ha := hb a (hs.subset (by simp))
      have hb3 := hb b (hs.subset (by simp))
      have := H [y] [] M (by simp)
      rw [ha, hb3]
      simpa using this
    · have := H (y :: a) u b (by rw [e]; simp)
      simpa using this
    · rw [hb a ha]
      obtain ⟨s, hs, e⟩ := List.mem_filterMap.1 hb2
      obtain ⟨M1, y', M2, e1, _, e3⟩ := newL_mem M _ s hs
      have e4 : b = vy x.natAbs x.sign (repX n X (pre ++ [y] ++ M1 ++ [y'])) := by
        unfold vv at e
        rw [e3] at e
        exact (Option.some.inj e).symm
      rw [e4]
      have := H [y] (M1 ++ [y']) M2 (by rw [e1]; simp)
      simpa using this
theorem MachR.red2 (hn : n ≤ 1000) (h2 : 2 ≤ n) (hD : IsUp n D (hf n)) (hA : LtW n A) (hX : Cover n A B X) {P M : List Int} {x : Int} {y : LL} {R : List LL} (h : MachR n l r D A B X (P ++ x :: M) (y :: R)) (hM : ∀ y ∈ M, x.natAbs < y.natAbs) (hy : y.1 = -x) :
    ∃ L, fsts L = midW x M ∧ MachR n l r D A B X P (L ++ R) ∧ muL n X (L ++ R) < muL n X (y :: R) ∧ L = newL n X x (P ++ [x]) M := by
  obtain ⟨L, hL, hm, hmu, hLn⟩ : ∃ L, fsts L = midW x M ∧ Mach n l A B X P (L ++ R) ∧ muL n X (L ++ R) < muL n X (y :: R) ∧ L = newL n X x (P ++ [x]) M := by
    obtain ⟨L, a, b, c, d⟩ := h.toMach.red2 hn h2 hA hX hM hy
    exact ⟨L, a, b, c, d⟩
  have e1 : (P ++ x :: M) ++ fsts (y :: R) = P ++ (x :: M ++ (-x) :: fsts R) := by rw [fsts_cons, hy]; simp
  have hl := h.lt
  have hr := h.rho
  rw [e1] at hl hr
  have lx : LtB n x := hl x (by simp)
  have lM : LtW n M := fun z hz => hl z (by simp [hz])
  have ho := oneSign_of_clean lx.1 h.cl hM
  have lV : LtW n (P ++ x :: M) := h.lt.left
  have dV : DrF n A B [] (P ++ x :: M) := h.dr.left
  have hrho := (rw_handle' (r := r) hn h2 hD hl hM ho).2 hr
  have hxs : -(x.sign * ((x.natAbs : Nat) : Int)) = -x := by rw [Int.sign_mul_natAbs]
  have vert : ∀ a b, M = a ++ b → LtW n (P ++ [x] ++ a) ∧ InB n A B (P ++ [x] ++ a) := fun a b e => by
    have e3 : P ++ x :: M = (P ++ [x] ++ a) ++ b := by rw [e]; simp
    exact ⟨by rw [e3] at lV; exact lV.left, by simpa using dV _ b e3⟩
  -- a label's vertex is a vertex of the new path
  have vyp : ∀ a b, M = a ++ b → BE n (vy x.natAbs x.sign (repX n X (P ++ [x] ++ a))) (P ++ midW x a) := fun a b e => by
    obtain ⟨v1, v2⟩ := vert a b e
    have h3 := ((hX.rep v1 v2).2.symm).post [-x]
    have lM' : LtW n a := fun z hz => lM z (by rw [e]; simp [hz])
    have h4 := ((midW_eq lx lM' fun z hz => hM z (by rw [e]; simp [hz])).pre P).post [-x]
    have h5 := cancelAt (v := P ++ midW x a) lx
    unfold vy
    rw [hxs]
    refine h3.trans ?_
    have h6 : BE n (P ++ [x] ++ a ++ [-x]) (P ++ (midW x a ++ [x]) ++ [-x]) := by simpa using h4
    refine h6.trans ?_
    simpa using h5
  have hrL : Rho n r D (P ++ fsts (L ++ R)) := by rw [fsts_append, hL]; exact hrho
  have dN := hm.dr
  have hbelOld : ∀ u z k ε q S2, R = u ++ (z, some (k, ε, q)) :: S2 → Bel n r D (vy k ε q) (P ++ (midW x M ++ fsts u)) := fun u z k ε q S2 a2 => by
    have e5 : y :: R = (y :: u) ++ (z, some (k, ε, q)) :: S2 := by rw [a2]; rfl
    have hb := h.bel _ z k ε q S2 e5
    have lv := h.ltv hX e5
    have e3 : (P ++ x :: M) ++ fsts (y :: u) = P ++ (x :: M ++ (-x) :: fsts u) := by rw [fsts_cons, hy]; simp
    rw [e3] at hb
    have lu : LtW n (P ++ (x :: M ++ (-x) :: fsts u)) := by
      have e6 : P ++ (x :: M ++ (-x) :: fsts R) = (P ++ (x :: M ++ (-x) :: fsts u)) ++ fsts ((z, some (k, ε, q)) :: S2) := by rw [a2, fsts_append]; simp
      rw [e6] at hl
      exact hl.left
    exact (rw_handle' (r := r) hn h2 hD lu hM ho).1 _ lv hb
  have split : ∀ S1 z k ε q S2, L ++ R = S1 ++ (z, some (k, ε, q)) :: S2 → (∃ u, L = S1 ++ (z, some (k, ε, q)) :: u) ∨ ∃ u, S1 = L ++ u ∧ R = u ++ (z, some (k, ε, q)) :: S2 := by
    intro S1 z k ε q S2 er
    rcases app_casesL er with ⟨u, a1, a2⟩ | ⟨u, a1, a2⟩
    · cases u with
      | nil =>
        rw [List.nil_append] at a2
        rw [List.append_nil] at a1
        exact .inr ⟨[], by rw [a1]; simp, a2.symm⟩
      | cons t u =>
        obtain ⟨rfl, a3⟩ := List.cons.inj a2
        exact .inl ⟨u, a1⟩
    · exact .inr ⟨u, a1, a2⟩
  refine ⟨L, hL, ⟨hm, hrL, fun S1 z k ε q S2 er => ?_, ?_, fun S1 z k ε q S2 er => ?_⟩, hmu, hLn⟩
  · rcases split S1 z k ε q S2 er with ⟨u, hu⟩ | ⟨u, a1, a2⟩
    · obtain ⟨M1, y', M2, b1, b2, e2, e3, e4, e5⟩ := newL_split M (P ++ [x]) S1 _ u (hLn.symm.trans hu)
      simp only [Option.some.injEq, Prod.mk.injEq] at e5
      obtain ⟨rfl, rfl, rfl⟩ := e5
      have hv := vyp (M1 ++ [y']) M2 (by rw [e2]; simp)
      rw [← List.append_assoc] at hv
      have hb : Bel n r D (P ++ midW x (M1 ++ [y'])) (P ++ midW x (M1 ++ [y'])) := by
        refine hrho _ (midW x M2 ++ fsts R) ?_
        rw [e2, show M1 ++ y' :: M2 = (M1 ++ [y']) ++ M2 by simp, midW_append]
        simp
      have e6 : P ++ midW x (M1 ++ [y']) = (P ++ fsts S1) ++ (z :: b2) := by
        rw [e4, midW_append, midW_cons, e3]
        simp [midW]
      rw [e6] at hb
      refine hb.left.congr ?_
      rw [← e6]
      exact hv.symm
    · have := hbelOld u z k ε q S2 a2
      rw [a1, fsts_append, hL]
      exact this
  · rw [List.filterMap_append, List.pairwise_append]
    refine ⟨?_, h.pair.sublist (List.Sublist.filterMap _ (List.sublist_cons_self y R)), fun a ha b hb => ?_⟩
    · rw [hLn]
      refine newL_pair M (P ++ [x]) fun a u b e => ?_
      have h3 := vyp a (u ++ b) (by rw [e]; simp)
      have h4 := vyp (a ++ u) b e
      rw [← List.append_assoc] at h4
      have h5 : LeB n ((P ++ midW x a) ++ midW x u) ((P ++ midW x a) ++ powB (r : Int) D) := by
        refine Rho.le (c := midW x b ++ fsts R) ?_
        have e7 : P ++ midW x a ++ midW x u ++ (midW x b ++ fsts R) = P ++ (midW x M ++ fsts R) := by rw [e, midW_append, midW_append]; simp
        rw [e7]; exact hrho
      refine h5.congr ?_ (h3.symm.post _)
      have : (P ++ midW x a) ++ midW x u = P ++ midW x (a ++ u) := by rw [midW_append]; simp
      rw [this]
      exact h4.symm
    · obtain ⟨s, hs, e⟩ := List.mem_filterMap.1 ha
      obtain ⟨t, ht, e'⟩ := List.mem_filterMap.1 hb
      rw [hLn] at hs
      obtain ⟨M1, y', M2, e2, _, e3⟩ := newL_mem M _ s hs
      have ea : a = vy x.natAbs x.sign (repX n X (P ++ [x] ++ M1 ++ [y'])) := by
        unfold vv at e
        rw [e3] at e
        exact (Option.some.inj e).symm
      rcases t with ⟨z, _ | ⟨k, ε, q⟩⟩
      · simp [vv] at e'
      · have eb : b = vy k ε q := (Option.some.inj e').symm
        obtain ⟨u, S2, er⟩ := List.append_of_mem ht
        have h3 := hbelOld u z k ε q S2 er (P ++ midW x (M1 ++ [y'])) (midW x M2 ++ fsts u) (by
          rw [e2, show M1 ++ y' :: M2 = (M1 ++ [y']) ++ M2 by simp, midW_append]; simp)
        have hv := vyp (M1 ++ [y']) M2 (by rw [e2]; simp)
        rw [← List.append_assoc] at hv
        rw [ea, eb]
        exact h3.congr (.refl _) (hv.symm.post _)
  · rcases split S1 z k ε q S2 er with ⟨u, hu⟩ | ⟨u, a1, a2⟩
    · obtain ⟨M1, y', M2, b1, b2, e2, e3, e4, e5⟩ := newL_split M (P ++ [x]) S1 _ u (hLn.symm.trans hu)
      simp only [Option.some.injEq, Prod.mk.injEq] at e5
      obtain ⟨rfl, rfl, rfl⟩ := e5
      have hv := vyp (M1 ++ [y']) M2 (by rw [e2]; simp)
      rw [← List.append_assoc] at hv
      have e5 : M = (M1 ++ [y']) ++ M2 := by rw [e2]; simp
      refine ⟨?_, ?_⟩
      · refine InB.congr (v := P ++ midW x (M1 ++ [y'])) ?_ hv.symm
        have := dN (P ++ midW x (M1 ++ [y'])) (midW x M2 ++ fsts R) (by rw [fsts_append, hL, e2, show M1 ++ y' :: M2 = (M1 ++ [y']) ++ M2 by simp, midW_append]; simp)
        simpa using this
      · obtain ⟨v1, v2⟩ := vert _ _ e5
        rw [← List.append_assoc] at v1 v2
        exact (repX_congr (hX.rep v1 v2).2).symm
    · exact h.inb (y :: u) z k ε q S2 (by rw [a2]; rfl)
theorem MachR.red (hn : n ≤ 1000) (h2 : 2 ≤ n) (hD : IsUp n D (hf n)) (hA : LtW n A) (hX : Cover n A B X) {P M : List Int} {x : Int} {y : LL} {R : List LL} (h : MachR n l r D A B X (P ++ x :: M) (y :: R)) (hM : ∀ y ∈ M, x.natAbs < y.natAbs) (hy : y.1 = -x) :
    ∃ L, fsts L = midW x M ∧ MachR n l r D A B X P (L ++ R) ∧ muL n X (L ++ R) < muL n X (y :: R) := by
  obtain ⟨L, a, b, c, _⟩ := h.red2 hn h2 hD hA hX hM hy
  exact ⟨L, a, b, c⟩
end
end Go.Proofs.Ytnmklkjlcpgjmaa

namespace Go.Proofs.Ytnmklkjlcpgjmaa
open Go.RowKit Go.Sl

section
variable {n l r : Nat} {D A B : List Int} {X : List (List Int)}
/-- A word on the way: the measure is at most m. -/
def OnWayR (n l r : Nat) (D A B : List Int) (X : List (List Int)) (w : List Int) (m : Nat) : Prop := ∃ V R, V ++ fsts R = w ∧ MachR n l r D A B X V R ∧ muL n X R ≤ m
theorem OnWayR.lt {w : List Int} {m : Nat} (h : OnWayR n l r D A B X w m) : LtW n w := by
  obtain ⟨V, R, rfl, hm, _⟩ := h
  exact hm.toMach.lt
/-- A pair that cancels. -/
theorem OnWayR.del (hn : n ≤ 1000) (h2 : 2 ≤ n) (hD : IsUp n D (hf n)) (hA : LtW n A) (hX : Cover n A B X) {a b : List Int} {x : Int} {m : Nat} (h : OnWayR n l r D A B X (a ++ x :: (-x) :: b) m) : OnWayR n l r D A B X (a ++ b) m := by
  obtain ⟨V, R, e, hm, hmu⟩ := h
  rcases app_cases e with ⟨u, e1, e2⟩ | ⟨u, e1, e2⟩
  · -- V = a ++ u
    rcases u with _ | ⟨t, _ | ⟨t', u⟩⟩
    · rw [List.append_nil] at e1
      rw [List.nil_append] at e2
      obtain ⟨y, R2, rfl, hy, e3⟩ := fsts_cons_split e2.symm
      obtain ⟨y', R3, rfl, hy', e4⟩ := fsts_cons_split e3
      have h3 := MachR.del hn h2 hD hA hX (R1 := []) hm (by rw [hy', hy])
      have h4 := mu_del (n := n) (X := X) y y' [] R3
      exact ⟨V, R3, by rw [e1, e4], h3, by simp only [List.nil_append] at h4; omega⟩
    · rw [List.cons_append, List.nil_append] at e2
      obtain ⟨rfl, e3⟩ := List.cons.inj e2
      obtain ⟨y, R2, rfl, hy, e4⟩ := fsts_cons_split e3.symm
      rw [e1] at hm
      obtain ⟨L, hL, h3, h4⟩ := MachR.red hn h2 hD hA hX (M := []) hm (fun z hz => by simp at hz) hy
      have : L = [] := by
        cases L with
        | nil => rfl
        | cons _ _ => simp [fsts, midW] at hL
      subst this
      exact ⟨a, R2, by rw [e4], by simpa using h3, by simp only [List.nil_append] at h4; omega⟩
    · exfalso
      rw [List.cons_append, List.cons_append] at e2
      obtain ⟨rfl, e3⟩ := List.cons.inj e2
      obtain ⟨rfl, e4⟩ := List.cons.inj e3
      refine hm.cl (a ++ [x]) (-x) u (by rw [e1]; simp) ⟨a, [], by rw [Int.neg_neg], fun z hz => by simp at hz⟩
  · -- a = V ++ u
    obtain ⟨R1, R2, rfl, e3, e4⟩ := fsts_split e2
    obtain ⟨y, R3, rfl, hy, e5⟩ := fsts_cons_split e4
    obtain ⟨y', R4, rfl, hy', e6⟩ := fsts_cons_split e5
    have h3 := MachR.del hn h2 hD hA hX hm (by rw [hy', hy])
    have h4 := mu_del (n := n) (X := X) y y' R1 R4
    exact ⟨V, R1 ++ R4, by rw [fsts_append, e3, e6, e1]; simp, h3, by omega⟩
/-- The reduced word. -/
theorem OnWayR.redL (hn : n ≤ 1000) (h2 : 2 ≤ n) (hD : IsUp n D (hf n)) (hA : LtW n A) (hX : Cover n A B X) {w : List Int} {m : Nat} (h : OnWayR n l r D A B X w m) : OnWayR n l r D A B X (redL w) m := by
  have key : ∀ (b s : List Int), OnWayR n l r D A B X (s.reverse ++ b) m → OnWayR n l r D A B X ((act s b).reverse) m := by
    intro b
    induction b with
    | nil => intro s h; simpa [act] using h
    | cons x b ih =>
      intro s h
      show OnWayR n l r D A B X ((act (psh s x) b).reverse) m
      refine ih _ ?_
      cases s with
      | nil => simpa [psh] using h
      | cons y t =>
        have ep : psh (y :: t) x = if y = -x then t else x :: y :: t := rfl
        rw [ep]
        by_cases hy : y = -x
        · rw [if_pos hy]
          subst hy
          have e : (-x :: t).reverse ++ x :: b = t.reverse ++ (-x) :: (- -x) :: b := by simp
          rw [e] at h
          exact h.del hn h2 hD hA hX
        · rw [if_neg hy]
          simpa using h
  have := key w [] (by simpa using h)
  exact this
/-- A handle. -/
theorem OnWayR.handle (hn : n ≤ 1000) (h2 : 2 ≤ n) (hD : IsUp n D (hf n)) (hA : LtW n A) (hX : Cover n A B X) {P M s : List Int} {x : Int} {m : Nat} (h : OnWayR n l r D A B X (P ++ x :: M ++ (-x) :: s) m) (hc : Clean (P ++ x :: M)) (hM : ∀ y ∈ M, x.natAbs < y.natAbs) : 0 < m ∧ OnWayR n l r D A B X (P ++ (midW x M ++ s)) (m - 1) := by
  obtain ⟨V, R, e, hm, hmu⟩ := h
  have cl : closeAt (P ++ x :: M) (-x) := ⟨P, M, by rw [Int.neg_neg], fun y hy => by rw [Int.natAbs_neg]; exact hM y hy⟩
  -- V is a part of P ++ x :: M
  have hpre : ∃ u, P ++ x :: M = V ++ u ∧ fsts R = u ++ (-x) :: s := by
    rcases app_cases e with ⟨u, e1, e2⟩ | ⟨u, e1, e2⟩
    · cases u with
      | nil => exact ⟨[], by rw [e1]; simp, by rw [List.nil_append] at e2 ⊢; exact e2.symm⟩
      | cons t u =>
        exfalso
        rw [List.cons_append] at e2
        obtain ⟨rfl, _⟩ := List.cons.inj e2
        exact hm.cl _ _ _ e1 cl
    · exact ⟨u, e1, e2⟩
  obtain ⟨u, e1, e2⟩ := hpre
  -- the letters ahead are passed
  have pass : ∀ (u V : List Int) (R : List LL), MachR n l r D A B X V R → P ++ x :: M = V ++ u → fsts R = u ++ (-x) :: s → ∃ R', MachR n l r D A B X (P ++ x :: M) R' ∧ fsts R' = (-x) :: s ∧ muL n X R' ≤ muL n X R := by
    intro u
    induction u with
    | nil =>
      intro V R hm e1 e2
      rw [List.append_nil] at e1
      exact ⟨R, by rw [e1]; exact hm, e2, Nat.le_refl _⟩
    | cons t u ih =>
      intro V R hm e1 e2
      obtain ⟨y, R2, rfl, hy, e3⟩ := fsts_cons_split e2
      have hno : ¬ closeAt V y.1 := by
        rw [hy]
        exact hc V t u e1
      have h3 := hm.shift hno
      rw [hy] at h3
      obtain ⟨R', h4, h5, h6⟩ := ih (V ++ [t]) R2 h3 (by rw [e1]; simp) e3
      have := mu_shift (n := n) (X := X) y R2
      exact ⟨R', h4, h5, by omega⟩
  obtain ⟨R', h3, h4, h5⟩ := pass u V R hm e1 e2
  obtain ⟨y, R2, rfl, hy, e3⟩ := fsts_cons_split h4
  obtain ⟨L, hL, h6, h7⟩ := MachR.red hn h2 hD hA hX h3 hM hy
  exact ⟨by omega, P, L ++ R2, by rw [fsts_append, hL, e3], h6, by omega⟩
/-- The start. -/
theorem OnWayR.start (_hD : IsUp n D (hf n)) {w : List Int} (hw : LtW n w) (hd : DrF n A B [] w) (hl : w.length ≤ l) (hr : Rho n r D w) : ∃ m, OnWayR n l r D A B X w m := by
  obtain ⟨R, hR⟩ : ∃ R : List LL, R = w.map fun z => (z, none) := ⟨_, rfl⟩
  have hf : fsts R = w := by rw [hR]; simp [fsts, Function.comp_def]
  have hno : ∀ R1 z k e q R2, R = R1 ++ (z, some (k, e, q)) :: R2 → False := fun R1 z k e q R2 er => by
    have : (z, some (k, e, q)) ∈ R := by rw [er]; simp
    rw [hR] at this
    obtain ⟨t, _, ht⟩ := List.mem_map.1 this
    simp at ht
  have h0 : R.filterMap vv = [] := by
    rw [hR, List.filterMap_map]
    exact List.filterMap_eq_nil_iff.2 fun z _ => rfl
  refine ⟨_, [], R, by rw [hf]; rfl, ⟨⟨by rw [hf]; exact hw, by rw [hf]; exact hd, clean_nil, fun R1 z k e q R2 er => (hno R1 z k e q R2 er).elim, fun k q => ?_, ?_⟩, by rw [hf]; exact hr, fun R1 z k e q R2 er => (hno R1 z k e q R2 er).elim, by rw [h0]; exact List.Pairwise.nil, fun R1 z k e q R2 er => (hno R1 z k e q R2 er).elim⟩, Nat.le_refl _⟩
  · have : R.countP (isLab k q) = 0 := List.countP_eq_zero.2 fun t ht hs => by
      rw [hR] at ht
      obtain ⟨z, _, rfl⟩ := List.mem_map.1 ht
      simp [isLab] at hs
    omega
  · have := List.countP_le_length (p := fun y : LL => y.2.isNone) (l := R)
    rw [hR, List.length_map] at this
    rw [hR]; omega

/-- At most M vertices on one path. -/
def Few (n r : Nat) (D A B : List Int) (M : Nat) : Prop := ∀ Z : List (List Int), (∀ z ∈ Z, LtW n z ∧ InB n A B z ∧ LeB n z (powB (r : Int) D)) → Z.Pairwise (fun a b => ¬ BE n a b) → Z.Pairwise (fun a b => LeB n b (a ++ powB (r : Int) D)) → Z.length ≤ M
theorem take_pair {V : List Int} (f : List Int → List Int → Prop) (h : ∀ i j, i < j → j < V.length → f (V.take (i + 1)) (V.take (j + 1))) : ((List.range V.length).map fun i => V.take (i + 1)).Pairwise f := by
  refine List.pairwise_map.2 (List.pairwise_iff_forall_sublist.2 fun {i j} hs => ?_)
  have hij : i < j := List.pairwise_iff_forall_sublist.1 (List.pairwise_lt_range (n := V.length)) hs
  exact h i j hij (List.mem_range.1 (hs.subset (by simp)))
theorem take_cut {V : List Int} {i j : Nat} (h : i < j) : V.take (j + 1) = V.take (i + 1) ++ (V.take (j + 1)).drop (i + 1) := by
  have := (List.take_append_drop (i + 1) (V.take (j + 1))).symm
  rwa [List.take_take, Nat.min_eq_left (by omega)] at this
/-- A path without handles. -/
theorem clean_few {M : Nat} (hF : Few n r D A B M) {V : List Int} (hV : Clean V) (lV : LtW n V) (dV : DrF n A B [] V) (hr : Rho n r D V) : V.length ≤ M := by
  have := hF ((List.range V.length).map fun i => V.take (i + 1)) (fun z hz => ?_) (take_pair _ fun i j hij hj hb => ?_) (take_pair _ fun i j hij hj => ?_)
  · simpa using this
  · obtain ⟨i, _, rfl⟩ := List.mem_map.1 hz
    refine ⟨fun z hz => lV z (List.mem_of_mem_take hz), by simpa using dV (V.take (i + 1)) (V.drop (i + 1)) (List.take_append_drop _ V).symm, ?_⟩
    have := hr (V.take (i + 1)) (V.drop (i + 1)) (List.take_append_drop _ V).symm [] (V.take (i + 1)) rfl
    simpa using this
  · have e2 := take_cut (V := V) hij
    rw [e2] at hb
    refine clean_apart hV lV (p := V.take (i + 1)) (u := (V.take (j + 1)).drop (i + 1)) (r := V.drop (j + 1)) ?_ ?_ hb
    · rw [← e2, List.take_append_drop]
    · intro h0
      have := congrArg List.length h0
      simp at this; omega
  · have e2 := take_cut (V := V) hij
    exact hr (V.take (j + 1)) (V.drop (j + 1)) (List.take_append_drop _ V).symm (V.take (i + 1)) _ e2
/-- Each label three times at most: a part with different labels. -/
theorem dedup {α β : Type} [DecidableEq β] (f : α → β) : ∀ (m : Nat) (R : List α), R.length ≤ m → (∀ b, R.countP (fun a => decide (f a = b)) ≤ 3) → ∃ S, List.Sublist S R ∧ S.Pairwise (fun a b => f a ≠ f b) ∧ R.length ≤ 3 * S.length := by
  intro m
  induction m with
  | zero =>
    intro R hR _
    obtain rfl := List.eq_nil_of_length_eq_zero (show R.length = 0 by omega)
    exact ⟨[], List.Sublist.refl _, List.Pairwise.nil, by simp⟩
  | succ m ih =>
    intro R hR h
    cases R with
    | nil => exact ⟨[], List.Sublist.refl _, List.Pairwise.nil, by simp⟩
    | cons a R =>
      obtain ⟨R', hR'⟩ : ∃ R', R' = R.filter (fun x => decide (f x ≠ f a)) := ⟨_, rfl⟩
      have hsub : List.Sublist R' R := by rw [hR']; exact List.filter_sublist
      have hlen : R'.length ≤ m := by have := hsub.length_le; simp at hR; omega
      obtain ⟨S, h1, h2, h3⟩ := ih R' hlen fun b => Nat.le_trans ((hsub.trans (List.sublist_cons_self a R)).countP_le) (h b)
      refine ⟨a :: S, List.Sublist.cons_cons a (h1.trans hsub), List.pairwise_cons.2 ⟨fun b hb => ?_, h2⟩, ?_⟩
      · have := h1.subset hb
        rw [hR'] at this
        have := (List.mem_filter.1 this).2
        simp only [decide_eq_true_eq] at this
        exact fun e => this e.symm
      · have hc := h (f a)
        rw [List.countP_cons] at hc
        simp only [decide_true, if_true] at hc
        have hs : R.length = R.countP (fun x => decide (f x = f a)) + R'.length := by
          rw [hR', ← List.countP_eq_length_filter]
          rw [List.length_eq_countP_add_countP (fun x => decide (f x = f a))]
          congr 1
          refine List.countP_congr fun x _ => ?_
          simp
        simp only [List.length_cons]
        omega
def isKE (k : Nat) (e : Int) (y : LL) : Bool := match y.2 with
  | some (k', e', _) => decide (k' = k ∧ e' = e)
  | none => false
theorem isKE_iff {k : Nat} {e : Int} {y : LL} : isKE k e y = true ↔ ∃ q, y.2 = some (k, e, q) := by
  unfold isKE
  rcases y with ⟨z, _ | ⟨k', e', q⟩⟩
  · simp
  · simp only [decide_eq_true_eq, Option.some.injEq, Prod.mk.injEq]
    exact ⟨fun ⟨h1, h2⟩ => ⟨q, h1, h2, rfl⟩, fun ⟨_, h1, h2, _⟩ => ⟨h1, h2⟩⟩
def labQ (y : LL) : List Int := match y.2 with
  | some (_, _, q) => q
  | none => []
/-- The pending letters with labels of one index and sign. -/
theorem MachR.labels (hX : Cover n A B X) {M : Nat} (hF : Few n r D A B M) {V : List Int} {R : List LL} (h : MachR n l r D A B X V R) (k : Nat) (e : Int) : R.countP (isKE k e) ≤ 3 * M := by
  obtain ⟨R', hR'⟩ : ∃ R', R' = R.filter (isKE k e) := ⟨_, rfl⟩
  have hsub : List.Sublist R' R := by rw [hR']; exact List.filter_sublist
  have hmem : ∀ y ∈ R', ∃ q, y.2 = some (k, e, q) := fun y hy => by
    rw [hR'] at hy
    exact isKE_iff.1 (List.mem_filter.1 hy).2
  obtain ⟨S, hS, hd, hl⟩ := dedup labQ R'.length R' (Nat.le_refl _) fun b => by
    refine Nat.le_trans ?_ (h.ct k b)
    refine Nat.le_trans (List.countP_mono_left (p := fun a => decide (labQ a = b)) (q := isLab k b) fun y hy hq => ?_) hsub.countP_le
    obtain ⟨q, hq2⟩ := hmem y hy
    rw [decide_eq_true_eq] at hq
    have hq3 : q = b := by simpa [labQ, hq2] using hq
    exact isLab_iff.2 ⟨e, by rw [hq2, hq3]⟩
  rw [List.countP_eq_length_filter, ← hR']
  refine Nat.le_trans hl (Nat.mul_le_mul_left 3 ?_)
  have hSm : ∀ y ∈ S, y.2 = some (k, e, labQ y) := fun y hy => by
    obtain ⟨q, hq⟩ := hmem y (hS.subset hy)
    unfold labQ
    rw [hq]
  have hfm : S.filterMap vv = S.map fun y => vy k e (labQ y) := by
    have : ∀ (T : List LL), (∀ y ∈ T, y.2 = some (k, e, labQ y)) → T.filterMap vv = T.map fun y => vy k e (labQ y) := by
      intro T
      induction T with
      | nil => intro _; rfl
      | cons y T ih =>
        intro hT
        have h1 : vv y = some (vy k e (labQ y)) := by
          unfold vv
          rw [hT y (by simp)]
        rw [List.filterMap_cons, h1, List.map_cons, ih fun z hz => hT z (by simp [hz])]
    exact this S hSm
  have facts : ∀ y ∈ S, LtW n (vy k e (labQ y)) ∧ InB n A B (vy k e (labQ y)) ∧ LeB n (vy k e (labQ y)) (powB (r : Int) D) ∧ repX n X (labQ y) = labQ y ∧ LtW n [-(e * (k : Int))] := fun y hy => by
    obtain ⟨R1, R2, er⟩ := List.append_of_mem (hsub.subset (hS.subset hy))
    have hy2 := hSm y hy
    have er2 : R = R1 ++ (y.1, some (k, e, labQ y)) :: R2 := by rw [er, ← hy2]
    obtain ⟨i1, i2⟩ := h.inb _ _ _ _ _ _ er2
    have b := h.bel _ _ _ _ _ _ er2 [] (V ++ fsts R1) rfl
    have l := h.ltv hX er2
    exact ⟨l, i1, by simpa using b, i2, l.right⟩
  have := hF (S.map fun y => vy k e (labQ y)) (fun z hz => ?_) ?_ ?_
  · simpa using this
  · obtain ⟨y, hy, rfl⟩ := List.mem_map.1 hz
    obtain ⟨a, b, c, _⟩ := facts y hy
    exact ⟨a, b, c⟩
  · refine List.pairwise_map.2 (List.Pairwise.imp_of_mem (fun {a b} ha hb hab hbe => hab ?_) hd)
    obtain ⟨_, _, _, ra, la⟩ := facts a ha
    obtain ⟨_, _, _, rb, _⟩ := facts b hb
    have h3 : BE n (labQ a) (labQ b) := hbe.cancelR la
    rw [← ra, ← rb]
    exact repX_congr h3
  · rw [← hfm]
    exact h.pair.sublist (List.Sublist.filterMap _ (hS.trans hsub))
theorem sum_leN {α : Type} {P : List α} {f : α → Nat} {c : Nat} (h : ∀ p, f p ≤ c) : (P.map f).sum ≤ P.length * c := by
  induction P with
  | nil => simp
  | cons p P ih => have := h p; rw [List.map_cons, List.sum_cons, List.length_cons, Nat.succ_mul]; omega
theorem count_cover {α : Type} {R : List LL} {P : List α} (f : α → LL → Bool) (h : ∀ y ∈ R, y.2.isSome → ∃ p ∈ P, f p y = true) : R.countP (fun y => y.2.isSome) ≤ (P.map fun p => R.countP (f p)).sum := by
  induction R with
  | nil => simp
  | cons y R ih =>
    have h1 := ih fun z hz => h z (by simp [hz])
    have e : (P.map fun p => (y :: R).countP (f p)).sum = (P.map fun p => if f p y = true then 1 else 0).sum + (P.map fun p => R.countP (f p)).sum := by
      clear h h1 ih
      induction P with
      | nil => rfl
      | cons p P ih2 =>
        have e1 : (y :: R).countP (f p) = R.countP (f p) + (if f p y = true then 1 else 0) := List.countP_cons
        rw [List.map_cons, List.sum_cons, List.map_cons, List.sum_cons, List.map_cons, List.sum_cons, ih2, e1]
        generalize (if f p y = true then 1 else 0) = a
        omega
    rw [e, List.countP_cons]
    split
    · rename_i hs
      obtain ⟨p, hp, hl⟩ := h y (by simp) hs
      have : 1 ≤ (P.map fun p => if f p y = true then 1 else 0).sum := by
        clear h h1 ih e
        induction P with
        | nil => simp at hp
        | cons q P ih2 =>
          simp only [List.map_cons, List.sum_cons]
          rcases List.mem_cons.1 hp with rfl | hp
          · rw [if_pos hl]; omega
          · have := ih2 hp; omega
      omega
    · omega
/-- No word on the way is long. -/
theorem MachR.len (hX : Cover n A B X) {M : Nat} (hF : Few n r D A B M) {V : List Int} {R : List LL} (h : MachR n l r D A B X V R) : (V ++ fsts R).length ≤ M + (l + (n - 2) * 2 * (3 * M)) := by
  have h1 := clean_few hF h.cl h.toMach.lt.left h.toMach.dr.left h.rho.left
  have h2 : R.countP (fun y => y.2.isSome) ≤ (n - 2) * 2 * (3 * M) := by
    obtain ⟨P, hP⟩ : ∃ P : List (Nat × Int), P = (List.range' 1 (n - 2)).flatMap fun k => [(k, 1), (k, -1)] := ⟨_, rfl⟩
    have h3 := count_cover (R := R) (P := P) (fun p => isKE p.1 p.2) fun y hy hs => by
      obtain ⟨R1, R2, e⟩ := List.append_of_mem hy
      rcases y with ⟨z, _ | ⟨k, e', q⟩⟩
      · simp at hs
      · obtain ⟨⟨he, hq, hk, hkn⟩, _⟩ := h.js R1 z k e' q R2 e
        refine ⟨(k, e'), ?_, isKE_iff.2 ⟨q, rfl⟩⟩
        rw [hP]
        refine List.mem_flatMap.2 ⟨k, List.mem_range'_1.2 ⟨by omega, by omega⟩, ?_⟩
        rcases he with rfl | rfl <;> simp
    have h4 := sum_leN (P := P) (f := fun p => R.countP (isKE p.1 p.2)) fun p => h.labels hX hF p.1 p.2
    have h5 : P.length = (n - 2) * 2 := by
      rw [hP]
      have : ∀ (L : List Nat), (L.flatMap fun k => [(k, (1 : Int)), (k, -1)]).length = L.length * 2 := by
        intro L
        induction L with
        | nil => simp
        | cons a L ih => rw [List.flatMap_cons, List.length_append, ih, List.length_cons]; simp; omega
      rw [this, List.length_range']
    rw [h5] at h4
    omega
  have h6 : R.length = R.countP (fun y => y.2.isNone) + R.countP (fun y => y.2.isSome) := by
    clear h h1 h2
    induction R with
    | nil => rfl
    | cons y R ih =>
      rw [List.length_cons, List.countP_cons, List.countP_cons, ih]
      rcases y with ⟨z, _ | L⟩ <;> simp <;> omega
  have h7 := h.nn
  rw [List.length_append, show (fsts R).length = R.length by simp [fsts]]
  omega
theorem OnWayR.len (hX : Cover n A B X) {M : Nat} (hF : Few n r D A B M) {w : List Int} {m : Nat} (h : OnWayR n l r D A B X w m) : w.length ≤ M + (l + (n - 2) * 2 * (3 * M)) := by
  obtain ⟨V, R, rfl, hm, _⟩ := h
  exact hm.len hX hF
end
end Go.Proofs.Ytnmklkjlcpgjmaa

namespace Go.Proofs.Ytnmklkjlcpgjmaa
open Go.RowKit Go.Sl

/-! ### All permutations -/
def insP (x : Int) : List Int → List (List Int)
  | [] => [[x]]
  | y :: t => (x :: y :: t) :: (insP x t).map (y :: ·)
def permsP : List Int → List (List Int)
  | [] => [[]]
  | x :: l => (permsP l).flatMap (insP x)
theorem mem_insP (x : Int) (s t : List Int) : s ++ x :: t ∈ insP x (s ++ t) := by
  induction s with
  | nil => cases t <;> simp [insP]
  | cons y s ih => simp only [List.cons_append, insP, List.mem_cons, List.mem_map]; exact .inr ⟨_, ih, rfl⟩
theorem mem_permsP : ∀ (l a : List Int), a.Perm l → a ∈ permsP l := by
  intro l
  induction l with
  | nil => intro a h; rw [h.eq_nil]; simp [permsP]
  | cons x l ih =>
    intro a h
    obtain ⟨s, t, rfl⟩ := List.append_of_mem (h.mem_iff.2 (List.mem_cons_self))
    have h2 : (s ++ t).Perm l := List.Perm.cons_inv ((List.perm_middle.symm).trans h)
    exact List.mem_flatMap.2 ⟨s ++ t, ih _ h2, mem_insP x s t⟩
def allP (n : Nat) : List (List Int) := permsP (iota n)
theorem mem_allP {n : Nat} {a : List Int} (h : Pn n a) : a ∈ allP n := by
  refine mem_permsP _ _ ?_
  have := h.perm.1
  rwa [h.len] at this

/-! ### Tight sequences -/
abbrev Msk := List Bool
/-- The crossings that may be taken away in front; those that may not be added behind. -/
def ldP (n : Nat) (a : List Int) : Msk := (List.range (n - 1)).map fun i => decide (nth a (i + 1) < nth a i)
def rdP (n : Nat) (a : List Int) : Msk := ldP n (backL a)
def subM (a b : Msk) : Bool := (a.zip b).all fun p => !p.1 || p.2
theorem ld_sub {n : Nat} {a b : List Int} (h : ∀ i, i + 1 < n → dn b i → dn (backL a) i) : subM (ldP n b) (rdP n a) = true := by
  unfold subM rdP ldP
  rw [List.zip_map', List.all_map, List.all_eq_true]
  intro i hi
  have hi := List.mem_range.1 hi
  simp only [Function.comp]
  by_cases hb : nth b (i + 1) < nth b i
  · have := h i (by omega) hb
    unfold dn at this
    rw [decide_eq_true this]; simp
  · rw [decide_eq_false hb]; rfl
def fullM (n : Nat) : Msk := (List.range (n - 1)).map fun _ => true
theorem sub_full (n : Nat) (a : List Int) : subM (ldP n a) (fullM n) = true := by
  unfold subM fullM ldP
  rw [List.zip_map', List.all_map, List.all_eq_true]
  intro i _
  simp
/-- (first, last, length) of each permutation. -/
def triP (n : Nat) : List (Msk × Msk × Nat) := (allP n).map fun a => (ldP n a, rdP n a, inv a)
def seqsP (n : Nat) : Nat → Nat → Msk → List (List (List Int))
  | 0, _, _ => [[]]
  | m + 1, L, K => (allP n).flatMap fun a => if subM (ldP n a) K = true ∧ inv a ≤ L then (seqsP n m (L - inv a) (rdP n a)).map (a :: ·) else []
/-- How many. -/
def cntP (tri : List (Msk × Msk × Nat)) : Nat → Nat → Msk → Nat
  | 0, _, _ => 1
  | m + 1, L, K => (tri.map fun t => if subM t.1 K = true ∧ t.2.2 ≤ L then cntP tri m (L - t.2.2) t.2.1 else 0).sum
theorem len_flatMapP {α β : Type} (l : List α) (f : α → List β) : (l.flatMap f).length = (l.map fun a => (f a).length).sum := by
  induction l with
  | nil => rfl
  | cons a l ih => rw [List.flatMap_cons, List.length_append, ih, List.map_cons, List.sum_cons]
theorem seqsP_len (n : Nat) : ∀ m L K, (seqsP n m L K).length = cntP (triP n) m L K := by
  intro m
  induction m with
  | zero => intro L K; rfl
  | succ m ih =>
    intro L K
    rw [seqsP, cntP, len_flatMapP]
    have e : ∀ f : Msk × Msk × Nat → Nat, (triP n).map f = (allP n).map fun a => f (ldP n a, rdP n a, inv a) := fun f => by rw [triP, List.map_map]; rfl
    rw [e]
    congr 1
    refine List.map_congr_left fun a _ => ?_
    show (if subM (ldP n a) K = true ∧ inv a ≤ L then _ else _ : List (List (List Int))).length = if subM (ldP n a) K = true ∧ inv a ≤ L then _ else 0
    split
    · rw [List.length_map, ih]
    · rfl
theorem mem_seqsP {n : Nat} : ∀ (T : List (List Int)) (m L : Nat) (K : Msk), T.length = m → Good n T → Tight n T → tot T ≤ L → (∀ a T', T = a :: T' → subM (ldP n a) K = true) → T ∈ seqsP n m L K := by
  intro T
  induction T with
  | nil => intro m L K hm _ _ _ _; subst hm; simp [seqsP]
  | cons a T ih =>
    intro m L K hm g t ht hK
    obtain ⟨m, rfl⟩ : ∃ k, m = k + 1 := ⟨T.length, by simpa using hm.symm⟩
    have ht' : inv a + tot T ≤ L := ht
    rw [seqsP]
    refine List.mem_flatMap.2 ⟨a, mem_allP g.hd, ?_⟩
    rw [if_pos ⟨hK a T rfl, by omega⟩]
    refine List.mem_map.2 ⟨T, ih m (L - inv a) (rdP n a) (by simpa using hm) g.tl t.tl (by omega) ?_, rfl⟩
    rintro b T' rfl
    refine ld_sub fun i hi hb => ?_
    have h1 := t.pair i hi hb
    exact (up_or g.hd hi).resolve_left h1

/-! ### The count by tables -/
def keys5 : List Msk := [true, false].flatMap fun a => [true, false].flatMap fun b => [true, false].flatMap fun c => [true, false].map fun d => [a, b, c, d]
theorem keys_ok : ((triP 5).all fun t => keys5.contains t.2.1) = true := by decide +kernel
end Go.Proofs.Ytnmklkjlcpgjmaa

namespace Go.Proofs.Ytnmklkjlcpgjmaa
open Go.RowKit Go.Sl

section
variable {n : Nat} {D : List Int}
theorem up_state (hn : n ≤ 1000) {w a : List Int} (h : IsUp n w a) : ∀ {s : St}, Good n s.2 → Eqv n (mulW n s w) (s.1, s.2 ++ [a]) := by
  induction h with
  | nil => exact fun {s} g => (Eqv.trail s.1 g).symm
  | @snoc w f j h hj hu ih =>
    intro s g
    have hF := h.pn hn
    rw [mulW_append]
    have h1 := eqv_mulW hn [ltr j] (fun x hx => by rw [List.mem_singleton.1 hx]; exact lt_ltr hj) (ih g)
    refine h1.trans ?_
    show Eqv n (mulS n (s.1, s.2 ++ [f]) (ltr j)) _
    unfold mulS
    rw [if_pos (pos_ltr (n := n) hj).1]
    have e : (ltr j).natAbs - 1 = j := by unfold ltr; omega
    rw [e]
    have r := (add_one hn hF hj hu).pre s.2
    have g2 : Good n (s.2 ++ [f, sgP n j]) := g.app (.cons hF (good_one hn (pn_sg hn hj)))
    have h3 := eqv_reach s.1 r g2
    have h4 := Eqv.trail (n := n) s.1 (F := s.2 ++ [swapV f j]) (g.app (good_one hn (hF.swapV hj)))
    simp only [List.append_assoc, List.cons_append, List.nil_append] at h3 h4 ⊢
    exact h3.trans h4
/-- A state without half twists and identities is its own normal form. -/
theorem cn_self {s : St} {j : Int} {G : List (List Int)} (hn : n ≤ 1000) (h2 : 2 ≤ n) (g : Good n G) (t : Tight n G) (h1 : hf n ∉ G) (h3 : iota n ∉ G) (h : Eqv n s (j, G)) : Cn n s (j, G) := by
  refine (eqv_cn hn h2 h _).2 ⟨g, G, .refl _, t, ?_⟩
  unfold strip
  rw [List.count_eq_zero.2 h1, List.filter_eq_self.2 fun x hx => by
    simp only [decide_eq_true_eq]
    exact ⟨fun e => h1 (e ▸ hx), fun e => h3 (e ▸ hx)⟩]
  simp
theorem cn_clean {s : St} {j : Int} {G : List (List Int)} (hn : n ≤ 1000) (h : Cn n s (j, G)) : Good n G ∧ Tight n G ∧ hf n ∉ G ∧ iota n ∉ G := by
  obtain ⟨g, T, r, t, e⟩ := h
  obtain ⟨_, e2⟩ := Prod.mk.inj e
  have gT := r.good g
  refine ⟨fun x hx => by rw [e2] at hx; exact gT x (List.mem_filter.1 hx).1, by rw [e2]; exact strip_is_tight hn T gT t, fun hm => ?_, fun hm => ?_⟩
  · rw [e2] at hm; have := (List.mem_filter.1 hm).2; simp at this
  · rw [e2] at hm; have := (List.mem_filter.1 hm).2; simp at this
theorem half_times (hn : n ≤ 1000) (hD : IsUp n D (hf n)) : ∀ (r : Nat) (j : Int) (G : List (List Int)), Good n G → Tight n G → hf n ∉ G → iota n ∉ G → ∃ G', G'.length = G.length ∧ Good n G' ∧ Tight n G' ∧ hf n ∉ G' ∧ iota n ∉ G' ∧ Eqv n (mulW n (j, G) (powB r D)) (j + r, G') := by
  intro r
  induction r with
  | zero => exact fun j G g t h1 h2 => ⟨G, rfl, g, t, h1, h2, by simpa [powB, mulW] using Eqv.refl _⟩
  | succ r ih =>
    intro j G g t h1 h2
    have e : powB ((r + 1 : Nat) : Int) D = D ++ powB (r : Int) D := by
      unfold powB
      rw [if_pos (by omega), if_pos (by omega), show ((r + 1 : Nat) : Int).natAbs = r + 1 by omega, show ((r : Nat) : Int).natAbs = r by omega, List.replicate_succ, List.flatten_cons]
    rw [e, mulW_append]
    have a1 := (up_state hn hD (s := (j, G)) g).trans (half_end hn g j)
    obtain ⟨G', l', g', t', n1, n2, e'⟩ := ih (j + 1) (G.map (turnP n)) (good_turn g) (tight_turn g t) (turn_mem g turn_hf h1) (turn_mem g turn_iota h2)
    refine ⟨G', by rw [l', List.length_map], g', t', n1, n2, ?_⟩
    have a2 := eqv_mulW hn (powB (r : Int) D) (powB_lt hD.lt _) a1
    rw [show j + ((r + 1 : Nat) : Int) = j + 1 + r by omega]
    exact a2.trans e'
/-- What divides a power of the half twist is a tight sequence of that many permutations. -/
theorem tight_of (hn : n ≤ 1000) (h2 : 2 ≤ n) (hD : IsUp n D (hf n)) {r : Nat} {t u : List Int} (ht : PosW n t) (hu : PosW n u) (h : BE n (t ++ u) (powB r D)) : ∃ T y, Good n T ∧ Tight n T ∧ T.length = r ∧ tot T = t.length ∧ WdF n T y ∧ BE n y t := by
  have gt := fwB_good hn ht
  have gu := fwB_good hn hu
  obtain ⟨⟨k, F⟩, hc⟩ := cn_exists (n := n) (s := stB n t) (stB_good hn ht.lt)
  obtain ⟨⟨k', F'⟩, hc'⟩ := cn_exists (n := n) (s := stB n u) (stB_good hn hu.lt)
  have hk' : 0 ≤ k' := by
    rw [stB_pos hu] at hc'
    obtain ⟨_, U, _, _, e⟩ := hc'
    have := (Prod.mk.inj e).1
    rw [this]
    show (0 : Int) ≤ 0 + (U.count (hf n) : Nat)
    omega
  have hk : 0 ≤ k := by
    have h5 := hc
    rw [stB_pos ht] at h5
    obtain ⟨_, U, _, _, e⟩ := h5
    have := (Prod.mk.inj e).1
    rw [this]
    show (0 : Int) ≤ 0 + (U.count (hf n) : Nat)
    omega
  -- the inverse
  obtain ⟨G, hGl, hG⟩ := inv_form hn h2 (w := t) ht.lt hc
  obtain ⟨gG, tG, n1, n2⟩ := cn_clean hn hG
  obtain ⟨G', hl', gG', tG', m1, m2, hE⟩ := half_times hn hD r (-k - F.length) G gG tG n1 n2
  have lit : LtW n (invB t) := invB_lt ht.lt
  have e1 : Eqv n (stB n (invB t ++ powB r D)) (-k - F.length + r, G') := by
    unfold stB
    rw [mulW_append]
    exact (eqv_mulW hn (powB (r : Int) D) (powB_lt hD.lt _) (cn_eqv hn h2 hG)).trans hE
  have hb : BE n u (invB t ++ powB r D) := by
    have h5 := h.pre (invB t)
    rw [← List.append_assoc] at h5
    exact ((BE.invMul ht.lt).post u).symm.trans h5
  have e2 := hb.eqv hn hu.lt (s := (0, [])) (good_nil n)
  have hc2 := cn_self hn h2 gG' tG' m1 m2 (e2.trans e1)
  have := cn_unique hc' hc2
  obtain ⟨e3, _⟩ := Prod.mk.inj this
  have hle : k + F.length ≤ r := by omega
  obtain ⟨gF, tF, f1, f2⟩ := cn_clean hn hc
  obtain ⟨K, rfl⟩ : ∃ K : Nat, k = (K : Int) := ⟨k.toNat, by omega⟩
  obtain ⟨T, hT⟩ : ∃ T, T = List.replicate K (hf n) ++ (F ++ List.replicate (r - K - F.length) (iota n)) := ⟨_, rfl⟩
  have gI : Good n (F ++ List.replicate (r - K - F.length) (iota n)) := gF.app fun x hx => by rw [List.eq_of_mem_replicate hx]; exact pn_iota hn
  have tI : ∀ m, Tight n (F ++ List.replicate m (iota n)) := by
    intro m
    induction m with
    | zero => simpa using tF
    | succ m ih => rw [List.replicate_succ', ← List.append_assoc]; exact tight_iota ih
  have lead : ∀ (K : Nat) (j : Int), Good n (List.replicate K (hf n) ++ (F ++ List.replicate (r - K - F.length) (iota n))) → True := fun _ _ _ => trivial
  have hall : ∀ (m : Nat) (S : List (List Int)), Good n S → Tight n S → Good n (List.replicate m (hf n) ++ S) ∧ Tight n (List.replicate m (hf n) ++ S) ∧ ∀ j : Int, Eqv n (j, List.replicate m (hf n) ++ S) (j + m, S) := by
    intro m
    induction m with
    | zero => exact fun S g t => ⟨by simpa using g, by simpa using t, fun j => by simpa using Eqv.refl _⟩
    | succ m ih =>
      intro S g t
      obtain ⟨a1, a2, a3⟩ := ih S g t
      rw [List.replicate_succ, List.cons_append]
      refine ⟨.cons (pn_hf hn) a1, tight_hf hn a2, fun j => ?_⟩
      have := (Eqv.half j a1).trans (a3 (j + 1))
      rw [show j + 1 + (m : Int) = j + ((m + 1 : Nat) : Int) by omega] at this
      exact this
  obtain ⟨gT, tT, eT⟩ := hall K _ gI (tI _)
  rw [← hT] at gT tT eT
  obtain ⟨y, hy⟩ := WdF.exists hn T gT
  have hE2 : Eqv n (0, T) (stB n t) := by
    have h5 := (eT 0).trans (eqv_iotas hn gF _ _)
    rw [Int.zero_add] at h5
    exact h5.trans (cn_eqv hn h2 hc).symm
  have hyt : BE n y t := by
    obtain ⟨d, hd⟩ := up_exists hn _ (pn_hf (n := n) hn)
    have w1 : Wd n (0, T) y := ⟨d, y, hd, hy, rfl⟩
    obtain ⟨b, hb⟩ := Wd.exists hn (stB_good hn ht.lt)
    exact (Wd.eqv hn hE2 gT w1 hb).trans (stB_wd hn ht.lt hb)
  refine ⟨T, y, gT, tT, ?_, ?_, hy, hyt⟩
  · rw [hT]; simp; omega
  · have h5 := hyt.ex
    rw [hy.posW.ex, ht.ex] at h5
    rw [← hy.len hn]
    omega
open Classical in
noncomputable def wdOf (n : Nat) (T : List (List Int)) : List Int := if h : ∃ w, WdF n T w then h.choose else []
theorem wdOf_spec {T : List (List Int)} {y : List Int} (h : WdF n T y) : WdF n T (wdOf n T) := by
  have hex : ∃ w, WdF n T w := ⟨y, h⟩
  unfold wdOf
  rw [dif_pos hex]
  exact hex.choose_spec
theorem wdOf_lt (T : List (List Int)) : LtW n (wdOf n T) := by
  by_cases h : ∃ w, WdF n T w
  · obtain ⟨y, hy⟩ := h
    exact (wdOf_spec hy).lt
  · unfold wdOf
    rw [dif_neg h]
    exact fun x hx => by simp at hx
/-- All vertices of the interval: from below and from above. -/
theorem cover_of (hn : n ≤ 1000) (h2 : 2 ≤ n) (hD : IsUp n D (hf n)) {A B : List Int} (lA : LtW n A) (lB : LtW n B) {r L : Nat} (hB : LeB n B (A ++ powB r D)) (hL : exB B - exB A ≤ 2 * L) : ∃ X, Cover n A B X ∧ X.length = 2 * cntP (triP n) r L (fullM n) := by
  obtain ⟨Sq, hSq⟩ : ∃ S, S = seqsP n r L (fullM n) := ⟨_, rfl⟩
  have inS : ∀ T : List (List Int), Good n T → Tight n T → T.length = r → tot T ≤ L → T ∈ Sq := fun T g t h1 h3 => by
    rw [hSq]
    exact mem_seqsP T r L _ h1 g t h3 fun a T' _ => sub_full n a
  refine ⟨(Sq.map fun T => A ++ wdOf n T) ++ (Sq.map fun T => B ++ invB (wdOf n T)), ⟨fun x hx => ?_, fun v lv hv => ?_⟩, ?_⟩
  · rcases List.mem_append.1 hx with h | h
    · obtain ⟨T, _, rfl⟩ := List.mem_map.1 h
      exact lA.app (wdOf_lt T)
    · obtain ⟨T, _, rfl⟩ := List.mem_map.1 h
      exact lB.app (invB_lt (wdOf_lt T))
  · obtain ⟨⟨t, ht, h3⟩, ⟨s, hs, h4⟩⟩ := hv
    obtain ⟨b, hb, h5⟩ := hB
    have h6 : BE n (A ++ (t ++ (s ++ b))) (A ++ powB r D) := by
      have a1 := (h3.post s).trans h4
      have a2 := (a1.post b).trans h5
      simpa using a2
    have h7 := h6.cancelL lA
    have hex : (t.length : Int) + s.length = exB B - exB A := by
      have e1 := h3.ex
      have e2 := h4.ex
      rw [exB_append, ht.ex] at e1
      rw [exB_append, hs.ex] at e2
      omega
    rcases Nat.le_total t.length L with hl | hl
    · obtain ⟨T, y, g, ti, hlen, htot, hy, hyt⟩ := tight_of hn h2 hD ht (hs.app hb) h7
      refine ⟨A ++ wdOf n T, List.mem_append_left _ (List.mem_map.2 ⟨T, inS T g ti hlen (by omega), rfl⟩), ?_⟩
      have h8 := ((wdOf_spec hy).uniq hn hy).trans hyt
      exact h3.symm.trans (h8.symm.pre A)
    · obtain ⟨t', ht', _, hp⟩ := passL hn hD (r : Int) ht
      have h8 : BE n (t ++ (s ++ (b ++ t'))) (t ++ powB r D) := by
        have a1 := (h7.post t').trans hp.symm
        simpa using a1
      have h9 := h8.cancelL ht.lt
      obtain ⟨T, y, g, ti, hlen, htot, hy, hyt⟩ := tight_of hn h2 hD hs (hb.app ht') h9
      refine ⟨B ++ invB (wdOf n T), List.mem_append_right _ (List.mem_map.2 ⟨T, inS T g ti hlen (by omega), rfl⟩), ?_⟩
      have h10 := ((wdOf_spec hy).uniq hn hy).trans hyt
      have h11 := (h10.inv (wdOf_lt T)).pre B
      have h12 := h4.post (invB s)
      have h13 := (BE.mulInv hs.lt).pre v
      rw [List.append_nil] at h13
      rw [List.append_assoc] at h12
      exact h13.symm.trans (h12.trans h11.symm)
  · rw [List.length_append, List.length_map, List.length_map, hSq, seqsP_len]; omega
end
end Go.Proofs.Ytnmklkjlcpgjmaa

namespace Go.Proofs.Ytnmklkjlcpgjmaa
open Go.RowKit Go.Sl

section
variable {n : Nat} {S : List Int → Prop}
def LoS (n : Nat) (S : List Int → Prop) (z : List Int) : Prop := LtW n z ∧ ∀ p, S p → LeB n z p
theorem LoS.down {z y : List Int} (h : LoS n S y) (hz : LtW n z) (k : LeB n z y) : LoS n S z := ⟨hz, fun p hp => k.trans (h.2 p hp)⟩
/-- Two lower bounds: the greater one, if nothing above it is one. -/
theorem lowS_join (hn : n ≤ 1000) (h2 : 2 ≤ n) {A : List Int} (hmax : ∀ i, i + 1 < n → ¬ LoS n S (A ++ [ltr i])) {x : List Int} (_hx : LoS n S x) :
    ∀ (k : Nat) (z a b x : List Int), a.length ≤ k → LtW n z → PosW n a → PosW n b → BE n (z ++ a) A → BE n (z ++ b) x → LtW n A → LoS n S A → LoS n S x → LeB n x A := by
  clear _hx x
  intro k
  induction k with
  | zero =>
    intro z a b x hk hz ha hb hA hX lA loA loX
    cases b with
    | nil =>
      rw [List.append_nil] at hX
      exact (LeB.add ha).congr hX hA
    | cons j b =>
      exfalso
      obtain rfl := List.eq_nil_of_length_eq_zero (show a.length = 0 by omega)
      rw [List.append_nil] at hA
      obtain ⟨i, hi, rfl⟩ := ltr_of hb.hd
      refine hmax i hi (loX.down (lA.app (PosW.one (pos_ltr hi)).lt) ⟨b, hb.tl, ?_⟩)
      have h1 := hA.symm.post ([ltr i] ++ b)
      rw [List.append_assoc]
      exact h1.trans (by simpa using hX)
  | succ k ih =>
    intro z a b x hk hz ha hb hA hX lA loA loX
    cases b with
    | nil =>
      rw [List.append_nil] at hX
      exact (LeB.add ha).congr hX hA
    | cons j b =>
      cases a with
      | nil =>
        exfalso
        rw [List.append_nil] at hA
        obtain ⟨i, hi, rfl⟩ := ltr_of hb.hd
        refine hmax i hi (loX.down (lA.app (PosW.one (pos_ltr hi)).lt) ⟨b, hb.tl, ?_⟩)
        have h1 := hA.symm.post ([ltr i] ++ b)
        rw [List.append_assoc]
        exact h1.trans (by simpa using hX)
      | cons i a =>
        obtain ⟨j, hj, rfl⟩ := ltr_of hb.hd
        obtain ⟨i, hi, rfl⟩ := ltr_of ha.hd
        have hzi : LtW n (z ++ [ltr i]) := hz.app (PosW.one (pos_ltr hi)).lt
        have hzj : LtW n (z ++ [ltr j]) := hz.app (PosW.one (pos_ltr hj)).lt
        have hA' : BE n ((z ++ [ltr i]) ++ a) A := by simpa using hA
        have hX' : BE n ((z ++ [ltr j]) ++ b) x := by simpa using hX
        have hk' : a.length ≤ k := by simpa using hk
        have liA : LeB n (z ++ [ltr i]) A := ⟨a, ha.tl, hA'⟩
        have ljX : LeB n (z ++ [ltr j]) x := ⟨b, hb.tl, hX'⟩
        have hLtm : LtW n (z ++ lcmB i j) := hz.app (lcmB_pos hi hj).lt
        have loM : LoS n S (z ++ lcmB i j) := ⟨hLtm, fun p hp => LeB.lcm hn h2 hi hj hz (liA.trans (loA.2 p hp)) (ljX.trans (loX.2 p hp))⟩
        obtain ⟨r, hr⟩ := lcmB_head i j
        obtain ⟨r', hr'⟩ := lcmB_head j i
        have pr : PosW n r := by have := lcmB_pos hi hj; rw [hr] at this; exact this.tl
        have pr' : PosW n r' := by have := lcmB_pos hj hi; rw [hr'] at this; exact this.tl
        have m1 : LeB n (z ++ lcmB i j) A := ih (z ++ [ltr i]) a r _ hk' hzi ha.tl pr hA' (by rw [hr]; simp; exact .refl _) lA loA loM
        have jm : LeB n (z ++ [ltr j]) (z ++ lcmB i j) := ⟨r', pr', by
          have h3 := (ltr_swap hj hi).pre z
          rw [hr'] at h3
          rw [List.append_assoc]
          exact h3⟩
        obtain ⟨a2, ha2, hA2⟩ := jm.trans m1
        have hlen : a2.length = a.length := by
          have e1 := hA2.ex
          have e2 := hA'.ex
          rw [exB_append, exB_append, ha2.ex] at e1
          rw [exB_append, exB_append, ha.tl.ex] at e2
          have e3 := (PosW.one (pos_ltr hi)).ex
          have e4 := (PosW.one (pos_ltr hj)).ex
          simp only [List.length_cons, List.length_nil] at e3 e4
          omega
        exact ih (z ++ [ltr j]) a2 b x (by omega) hzj ha2 hb.tl hA2 hX' lA loA loX

variable {r : Nat} {D A B : List Int}
/-- The greatest lower bound of two. -/
theorem gcd_exists (hn : n ≤ 1000) (h2 : 2 ≤ n) (hD : IsUp n D (hf n)) {Q z : List Int} (hA : LtW n A) (hQ : LeB n A Q) (hz : LeB n A z) : ∃ G, LtW n G ∧ LeB n A G ∧ LeB n G Q ∧ LeB n G z ∧ ∀ Y, LtW n Y → LeB n Y Q → LeB n Y z → LeB n Y G := by
  obtain ⟨S, hS⟩ : ∃ S : List Int → Prop, S = fun p => p = Q ∨ p = z := ⟨_, rfl⟩
  have lo : ∀ {y : List Int}, LtW n y → LeB n y Q → LeB n y z → LoS n S y := fun {y} l a b => ⟨l, fun p hp => by
    rw [hS] at hp
    rcases hp with rfl | rfl
    · exact a
    · exact b⟩
  have loQ : ∀ {y : List Int}, LoS n S y → LeB n y Q ∧ LeB n y z := fun {y} h => ⟨h.2 Q (by rw [hS]; exact .inl rfl), h.2 z (by rw [hS]; exact .inr rfl)⟩
  have hmaxE : ∀ (k : Nat) (y : List Int), LoS n S y → exB y + k = exB Q → ∃ G, LoS n S G ∧ ∀ i, i + 1 < n → ¬ LoS n S (G ++ [ltr i]) := by
    intro k
    induction k with
    | zero =>
      intro y hy e
      refine ⟨y, hy, fun i hi h => ?_⟩
      have h3 := (loQ h).1.exLe
      rw [exB_append, (PosW.one (pos_ltr hi)).ex] at h3
      simp at h3 e; omega
    | succ k ih =>
      intro y hy e
      by_cases h : ∃ i, i + 1 < n ∧ LoS n S (y ++ [ltr i])
      · obtain ⟨i, hi, h⟩ := h
        refine ih _ h ?_
        rw [exB_append, (PosW.one (pos_ltr hi)).ex]
        simp; omega
      · exact ⟨y, hy, fun i hi h3 => h ⟨i, hi, h3⟩⟩
  have h0 := lo hA hQ hz
  have hle := hQ.exLe
  obtain ⟨G, hG, hmax⟩ := hmaxE (exB Q - exB A).toNat A h0 (by omega)
  have great : ∀ x, LoS n S x → LeB n x G := fun x hx => by
    obtain ⟨M, hM⟩ : ∃ M : Nat, M = max (negN G) (negN x) := ⟨_, rfl⟩
    obtain ⟨a, ha, hae⟩ := word_above hn hD hG.1 (m := (M : Int)) (by omega)
    obtain ⟨b, hb, hbe⟩ := word_above hn hD hx.1 (m := (M : Int)) (by omega)
    exact lowS_join hn h2 hmax hx a.length _ a b x (Nat.le_refl _) (powB_lt hD.lt _) ha hb hae hbe hG.1 hG hx
  exact ⟨G, hG.1, great _ h0, (loQ hG).1, (loQ hG).2, fun Y lY a b => great _ (lo lY a b)⟩
theorem le_eq {x y : List Int} (h : LeB n x y) (e : exB x = exB y) : BE n x y := by
  obtain ⟨t, ht, h⟩ := h
  have h1 := h.ex
  rw [exB_append, ht.ex] at h1
  obtain rfl : t = [] := List.eq_nil_of_length_eq_zero (by omega)
  rwa [List.append_nil] at h
theorem first_not {α : Type} (p : α → Prop) : ∀ (Z : List α), (∀ z ∈ Z, p z) ∨ ∃ Z1 z Z2, Z = Z1 ++ z :: Z2 ∧ (∀ a ∈ Z1, p a) ∧ ¬ p z := by
  intro Z
  induction Z with
  | nil => exact .inl fun z hz => by simp at hz
  | cons a Z ih =>
    by_cases h : p a
    · rcases ih with ih | ⟨Z1, z, Z2, rfl, h1, h3⟩
      · exact .inl fun z hz => by
          rcases List.mem_cons.1 hz with rfl | hz
          · exact h
          · exact ih z hz
      · exact .inr ⟨a :: Z1, z, Z2, rfl, fun y hy => by
          rcases List.mem_cons.1 hy with rfl | hy
          · exact h
          · exact h1 y hy, h3⟩
    · exact .inr ⟨[], a, Z, rfl, fun y hy => by simp at hy, h⟩
/-- At most f vertices between Q and Q shifted. -/
def Span (n r : Nat) (D : List Int) (f : Nat) : Prop := ∀ Q, LtW n Q → ∀ Z : List (List Int), (∀ z ∈ Z, LtW n z ∧ LeB n Q z ∧ LeB n z (Q ++ powB (r : Int) D)) → Z.Pairwise (fun a b => ¬ BE n a b) → Z.length ≤ f
theorem few_chain (hn : n ≤ 1000) (h2 : 2 ≤ n) (hD : IsUp n D (hf n)) (hA : LtW n A) {f : Nat} (hf : Span n r D f) : ∀ (m : Nat) (Q : List Int) (Z : List (List Int)), LtW n Q → LeB n A Q → exB Q - exB A ≤ m → (∀ z ∈ Z, LtW n z ∧ LeB n A z ∧ LeB n z (Q ++ powB (r : Int) D)) → Z.Pairwise (fun a b => ¬ BE n a b) → Z.Pairwise (fun a b => LeB n b (a ++ powB (r : Int) D)) → Z.length ≤ (m + 1) * (f + 1) := by
  intro m
  induction m with
  | zero =>
    intro Q Z lQ hQ he hZ hd _
    have h1 := hf Q lQ Z (fun z hz => ⟨(hZ z hz).1, ?_, (hZ z hz).2.2⟩) hd
    · omega
    · have h3 := hQ.exLe
      exact (hZ z hz).2.1.congr (le_eq hQ (by omega)) (.refl _)
  | succ m ih =>
    intro Q Z lQ hQ he hZ hd hp
    rcases first_not (fun z => LeB n Q z) Z with h | ⟨Z1, z, Z2, rfl, h1, h3⟩
    · have h4 := hf Q lQ Z (fun z hz => ⟨(hZ z hz).1, h z hz, (hZ z hz).2.2⟩) hd
      have : (m + 1 + 1) * (f + 1) = (m + 1) * (f + 1) + (f + 1) := Nat.succ_mul _ _
      omega
    · have hz := hZ z (by simp)
      obtain ⟨G, lG, gA, gQ, gz, gr⟩ := gcd_exists hn h2 hD hA hQ hz.2.1
      have hlt : exB G < exB Q := by
        have h4 := gQ.exLe
        rcases Int.lt_or_eq_of_le h4 with h5 | h5
        · exact h5
        · exact absurd (gz.congr (le_eq gQ h5) (.refl _)) h3
      have d1 := List.pairwise_append.1 hd
      have p1 := List.pairwise_append.1 hp
      have h4 := hf Q lQ Z1 (fun y hy => ⟨(hZ y (by simp [hy])).1, h1 y hy, (hZ y (by simp [hy])).2.2⟩) d1.1
      have h5 := ih G Z2 lG gA (by omega) (fun b hb => by
        have hb3 := hZ b (by simp [hb])
        refine ⟨hb3.1, hb3.2.1, ?_⟩
        have k1 := (List.pairwise_cons.1 p1.2.1).1 b hb
        exact le_unshift hn hD (gr _ (hb3.1.app (powB_lt hD.lt _)) (le_shift hn hD hb3.2.2) (le_shift hn hD k1))) (List.pairwise_cons.1 d1.2.1).2 (List.pairwise_cons.1 p1.2.1).2
      have : (m + 1 + 1) * (f + 1) = (m + 1) * (f + 1) + (f + 1) := Nat.succ_mul _ _
      rw [List.length_append, List.length_cons]
      omega
theorem dist_len {Z X : List (List Int)} (h : ∀ z ∈ Z, ∃ x ∈ X, BE n z x) (hd : Z.Pairwise fun a b => ¬ BE n a b) : Z.length ≤ X.length := by
  have spec : ∀ z ∈ Z, repX n X z ∈ X ∧ BE n z (repX n X z) := fun z hz => by
    have hex := h z hz
    unfold repX
    rw [dif_pos hex]
    exact hex.choose_spec
  have := nodup_lenW (Z.map (repX n X)) X ?_ ?_
  · simpa using this
  · refine List.pairwise_map.2 (List.Pairwise.imp_of_mem (fun {a b} ha hb hab e => hab ?_) hd)
    have h1 := (spec a ha).2
    rw [e] at h1
    exact h1.trans (spec b hb).2.symm
  · intro x hx
    obtain ⟨z, hz, rfl⟩ := List.mem_map.1 hx
    exact (spec z hz).1
/-- The divisors of a power of the half twist. -/
theorem span_cnt (hn : n ≤ 1000) (h2 : 2 ≤ n) (hD : IsUp n D (hf n)) : Span n r D (cntP (triP n) r (r * D.length) (fullM n)) := by
  intro Q lQ Z hZ hd
  rw [← seqsP_len]
  have := dist_len (X := (seqsP n r (r * D.length) (fullM n)).map fun T => Q ++ wdOf n T) (fun z hz => ?_) hd
  · simpa using this
  · obtain ⟨lz, ⟨t, ht, h3⟩, ⟨u, hu, h4⟩⟩ := hZ z hz
    have h6 : BE n (Q ++ (t ++ u)) (Q ++ powB r D) := by
      have a1 := (h3.post u).trans h4
      simpa using a1
    have h7 := h6.cancelL lQ
    obtain ⟨T, y, g, ti, hlen, htot, hy, hyt⟩ := tight_of hn h2 hD ht hu h7
    have e1 := h7.ex
    rw [exB_append, ht.ex, hu.ex, powB_ex hD.posW] at e1
    refine ⟨Q ++ wdOf n T, List.mem_map.2 ⟨T, mem_seqsP T r _ _ hlen g ti ?_ fun a T' _ => sub_full n a, rfl⟩, ?_⟩
    · rw [htot]
      have : (r : Int) * (D.length : Int) = ((r * D.length : Nat) : Int) := by rw [Int.natCast_mul]
      omega
    · have h8 := ((wdOf_spec hy).uniq hn hy).trans hyt
      exact h3.symm.trans (h8.symm.pre Q)
/-- A path of at most r positive letters. -/
theorem few_low (hn : n ≤ 1000) (h2 : 2 ≤ n) (hD : IsUp n D (hf n)) (hA : LtW n A) (hA0 : LeB n A []) {f m : Nat} (hf : Span n r D f) (hm : - exB A ≤ m) : Few n r D A B ((m + 1) * (f + 1)) := fun Z hZ hd hp => by
  have e0 : exB ([] : List Int) = 0 := rfl
  exact few_chain hn h2 hD hA hf m [] Z (fun x hx => by simp at hx) hA0 (by omega) (fun z hz => ⟨(hZ z hz).1, (hZ z hz).2.1.1, by simpa using (hZ z hz).2.2⟩) hd hp
/-- All vertices of the interval. -/
theorem few_all {s f : Nat} (hA : LtW n A) (hf : Span n s D f) (hB : LeB n B (A ++ powB (s : Int) D)) : Few n r D A B f := fun Z hZ hd _ => hf A hA Z (fun z hz => ⟨(hZ z hz).1, (hZ z hz).2.1.1, (hZ z hz).2.1.2.trans hB⟩) hd
theorem Few.mono {M M' : Nat} (h : Few n r D A B M) (hm : M ≤ M') : Few n r D A B M' := fun Z a b c => Nat.le_trans (h Z a b c) hm
/-- The relation at the start. -/
theorem rho_start (hn : n ≤ 1000) (hD : IsUp n D (hf n)) {w : List Int} (hw : LtW n w) (h : posN w ≤ r) : Rho n r D w := by
  rintro q s rfl p t rfl
  have ht : LtW n t := hw.left.right
  have : posN t ≤ r := by rw [posN_append, posN_append] at h; omega
  exact (word_below hn hD ht (m := (r : Int)) (by omega)).pre p
/-- The interval of a word, with the exponent of its bottom. -/
theorem box_low (hn : n ≤ 1000) (h2 : 2 ≤ n) (hD : IsUp n D (hf n)) {w : List Int} (hw : LtW n w) {s : Nat} (hP : posN w ≤ s) (hN : negN w ≤ s) :
    ∃ A B, LoB n w A ∧ HiB n w B ∧ LeB n B (A ++ powB (s : Int) D) ∧ - exB A ≤ posN w * D.length + negN w - posN w := by
  obtain ⟨A, hA, hAm⟩ := low_exists hn h2 hD hw
  obtain ⟨B, hB, hBm⟩ := high_exists hn h2 hD hw
  have eW := (ex_count hw).1
  have upA : HiB n w (A ++ powB s D) := ⟨hA.1.app (powB_lt hD.lt _), fun p t e => by
    have hlo : LoB n w (p ++ powB (-(s : Int)) D) := ⟨by rw [e] at hw; exact hw.left.app (powB_lt hD.lt _), fun q t eq => le_shift hn hD (between hn hD hw eq e (by omega) (by omega))⟩
    exact le_unshift hn hD (hAm _ hlo)⟩
  refine ⟨A, B, hA, hB, hBm _ upA, ?_⟩
  have h3 : LoB n w (w ++ powB (-(posN w : Int)) D) := ⟨hw.app (powB_lt hD.lt _), fun q t e => le_shift hn hD (by
    have ht : LtW n t := by rw [e] at hw; exact hw.right
    have := (word_below hn hD ht (m := (posN w : Int)) (by rw [e, posN_append]; omega)).pre q
    rwa [← e] at this)⟩
  have e2 := (hAm _ h3).exLe
  rw [exB_append, powB_ex hD.posW, Int.neg_mul] at e2
  omega
end
end Go.Proofs.Ytnmklkjlcpgjmaa

namespace Go.Proofs.Ytnmklkjlcpgjmaa
open Go.RowKit Go.Sl

section
variable {n g : Nat} {D w Y : List Int} {S : List Int → Prop}
/-- Below all the tops. -/
def Und (n : Nat) (S : List Int → Prop) (Y : List Int) : Prop := ∀ t, S t → LeB n Y t
theorem Und.down {Z : List Int} (h : Und n S Y) (k : LeB n Z Y) : Und n S Z := fun t ht => k.trans (h t ht)
theorem Und.congr {Z : List Int} (h : Und n S Y) (k : BE n Y Z) : Und n S Z := fun t ht => (h t ht).congr k (.refl _)
/-- The tops behind a new group; behind a negative letter. -/
def topN (D w : List Int) : List Int → Prop := fun t => t = w ++ powB 1 D
def topM (S : List Int → Prop) (D w : List Int) : List Int → Prop := fun t => S t ∨ t = w ++ powB 1 D
/-- A word whose positive letters make g groups; the group that is open has the tops S. -/
structure Gr (n : Nat) (D w : List Int) (g : Nat) (S : List Int → Prop) : Prop where
  g1 : 1 ≤ g
  low : Und n S w
  top : ∀ p s, w = p ++ s → ∀ Y, LtW n Y → Und n S Y → LeB n Y (p ++ powB (g : Int) D)
  rho : Rho n g D w
theorem pow_mono (hD : IsUp n D (hf n)) {a b : Nat} (h : a ≤ b) (z : List Int) : LeB n (z ++ powB (a : Int) D) (z ++ powB (b : Int) D) := le_pow hD (by omega) z
theorem app_one {p s w : List Int} {x : Int} (h : w ++ [x] = p ++ s) : (∃ u, w = p ++ u) ∨ p = w ++ [x] := by
  rcases List.append_eq_append_iff.1 h with ⟨u, e1, e2⟩ | ⟨u, e1, _⟩
  · cases u with
    | nil => exact .inl ⟨[], by rw [e1]; simp⟩
    | cons y u =>
      obtain ⟨rfl, e3⟩ := List.cons.inj e2
      have : u = [] ∧ s = [] := by
        have := congrArg List.length e3
        simp at this
        exact ⟨List.eq_nil_of_length_eq_zero (by omega), List.eq_nil_of_length_eq_zero (by omega)⟩
      exact .inr (by rw [e1, this.1])
  · exact .inl ⟨u, e1⟩
theorem Rho.snoc {x : Int} (h : Rho n g D w) (k : Bel n g D (w ++ [x]) (w ++ [x])) : Rho n g D (w ++ [x]) := fun q s e => by
  rcases app_one e with ⟨u, e1⟩ | e1
  · exact h q u e1
  · rw [e1]; exact k
theorem Rho.mono {g' : Nat} (hD : IsUp n D (hf n)) (h : Rho n g D w) (hg : g ≤ g') : Rho n g' D w := fun q s e p t e2 => (h q s e p t e2).trans (pow_mono hD hg p)
theorem Gr.start (hD : IsUp n D (hf n)) : Gr n D [] 1 (topN D []) := by
  refine ⟨Nat.le_refl _, fun t ht => ?_, fun p s e Y _ h => ?_, fun q s e p t e2 => ?_⟩
  · rw [ht]; exact LeB.add (x := []) (powB_pos hD.posW (by omega))
  · obtain ⟨rfl, rfl⟩ := List.append_eq_nil_iff.1 e.symm
    exact h _ rfl
  · obtain ⟨rfl, rfl⟩ := List.append_eq_nil_iff.1 e.symm
    obtain ⟨rfl, rfl⟩ := List.append_eq_nil_iff.1 e2.symm
    exact k_up hD []
/-- A letter that joins the group. -/
theorem Gr.join (hn : n ≤ 1000) (hD : IsUp n D (hf n)) (lw : LtW n w) (h : Gr n D w g S) {i : Nat} (hi : i + 1 < n) (k : Und n S (w ++ [ltr i])) : Gr n D (w ++ [ltr i]) g S := by
  have lx : LtW n (w ++ [ltr i]) := lw.app (lw1 (lt_ltr hi))
  have top : ∀ p s, w ++ [ltr i] = p ++ s → ∀ Y, LtW n Y → Und n S Y → LeB n Y (p ++ powB (g : Int) D) := fun p s e Y lY hY => by
    rcases app_one e with ⟨u, e1⟩ | e1
    · exact h.top p u e1 Y lY hY
    · rw [e1]
      exact (h.top w [] (by simp) Y lY hY).trans (k_mono hn hD (LeB.add (PosW.one (pos_ltr hi))))
  exact ⟨h.g1, k, top, h.rho.snoc fun p s e => top p s e _ lx k⟩
/-- A letter that begins a new group. -/
theorem Gr.new (hn : n ≤ 1000) (hD : IsUp n D (hf n)) (lw : LtW n w) (h : Gr n D w g S) {i : Nat} (hi : i + 1 < n) : Gr n D (w ++ [ltr i]) (g + 1) (topN D w) := by
  have lx : LtW n (w ++ [ltr i]) := lw.app (lw1 (lt_ltr hi))
  have low : Und n (topN D w) (w ++ [ltr i]) := fun t ht => by
    rw [ht]
    obtain ⟨d, hd, e⟩ := half_div hn hD hi
    refine LeB.pre w ⟨d, hd, ?_⟩
    have := powB_succ (n := n) hD.lt 0
    rw [powB_zero, List.nil_append] at this
    exact e.symm.trans this.symm
  have hup : ∀ p s, w = p ++ s → LeB n (w ++ powB 1 D) (p ++ powB ((g + 1 : Nat) : Int) D) := fun p s e => by
    have h1 := k_mono (r := 1) hn hD (h.top p s e w lw h.low)
    refine h1.congr (.refl _) ?_
    have h3 := (powB_add (n := n) hD.lt (g : Int) 1).symm.pre p
    have e4 : ((g + 1 : Nat) : Int) = (g : Int) + 1 := by omega
    rw [e4]
    simpa using h3
  have top : ∀ p s, w ++ [ltr i] = p ++ s → ∀ Y, LtW n Y → Und n (topN D w) Y → LeB n Y (p ++ powB ((g + 1 : Nat) : Int) D) := fun p s e Y lY hY => by
    have h1 := hY _ rfl
    rcases app_one e with ⟨u, e1⟩ | e1
    · exact h1.trans (hup p u e1)
    · rw [e1]
      exact h1.trans ((pow_mono hD (show 1 ≤ g + 1 by omega) w).trans (k_mono hn hD (LeB.add (PosW.one (pos_ltr hi)))))
  exact ⟨by omega, low, top, (h.rho.mono hD (Nat.le_succ g)).snoc fun p s e => top p s e _ lx low⟩
/-- A negative letter. -/
theorem Gr.neg (hD : IsUp n D (hf n)) (lw : LtW n w) (h : Gr n D w g S) {i : Nat} (hi : i + 1 < n) : Gr n D (w ++ [-ltr i]) g (topM S D (w ++ [-ltr i])) := by
  have lx : LtW n (w ++ [-ltr i]) := lw.app (lw1 (lt_neg (lt_ltr hi)))
  have low : Und n (topM S D (w ++ [-ltr i])) (w ++ [-ltr i]) := fun t ht => by
    rcases ht with ht | rfl
    · exact ((neg1 hi).le w).trans (h.low t ht)
    · exact k_up (r := 1) hD _
  have top : ∀ p s, w ++ [-ltr i] = p ++ s → ∀ Y, LtW n Y → Und n (topM S D (w ++ [-ltr i])) Y → LeB n Y (p ++ powB (g : Int) D) := fun p s e Y lY hY => by
    rcases app_one e with ⟨u, e1⟩ | e1
    · exact h.top p u e1 Y lY fun t ht => hY t (.inl ht)
    · rw [e1]
      exact (hY _ (.inr rfl)).trans (pow_mono hD h.g1 _)
  exact ⟨h.g1, low, top, h.rho.snoc fun p s e => top p s e _ lx low⟩

/-! ### Letters that may join -/
def JI (n : Nat) (S : List Int → Prop) (w : List Int) (J : Nat → Prop) : Prop := ∀ j, J j → j + 1 < n → Und n S (w ++ [ltr j])
theorem und_lcm (hn : n ≤ 1000) (h2 : 2 ≤ n) (lw : LtW n w) {i j : Nat} (hi : i + 1 < n) (hj : j + 1 < n) (h : Und n S (w ++ [ltr i])) (k : Und n S (w ++ [ltr j])) : Und n S (w ++ lcmB i j) := fun t ht => LeB.lcm hn h2 hi hj lw (h t ht) (k t ht)
theorem lcm_two {i j : Nat} (h : i ≠ j) : ∃ t, lcmB i j = ltr i :: ltr j :: t ∧ (t = [] ∨ t = [ltr i]) := by
  unfold lcmB
  by_cases hf : i + 1 < j ∨ j + 1 < i
  · rw [if_pos hf]; exact ⟨[], rfl, .inl rfl⟩
  · rw [if_neg hf, if_neg h]; exact ⟨[ltr i], rfl, .inr rfl⟩
theorem und_two (hn : n ≤ 1000) (h2 : 2 ≤ n) (lw : LtW n w) {i j : Nat} (hi : i + 1 < n) (hj : j + 1 < n) (hij : i ≠ j) (h : Und n S (w ++ [ltr i])) (k : Und n S (w ++ [ltr j])) : Und n S (w ++ [ltr i] ++ [ltr j]) := by
  obtain ⟨t, e, ht⟩ := lcm_two hij
  have h1 := und_lcm hn h2 lw hi hj h k
  refine h1.down ⟨t, ?_, ?_⟩
  · rcases ht with rfl | rfl
    · exact posW_nil
    · exact PosW.one (pos_ltr hi)
  · rw [e]; simp; exact .refl _
theorem und_top (hn : n ≤ 1000) (hD : IsUp n D (hf n)) {i : Nat} (hi : i + 1 < n) : Und n (topN D w) (w ++ [ltr i]) := fun t ht => by
  rw [ht]
  obtain ⟨d, hd, e⟩ := half_div hn hD hi
  refine LeB.pre w ⟨d, hd, ?_⟩
  have := powB_succ (n := n) hD.lt 0
  rw [powB_zero, List.nil_append] at this
  exact e.symm.trans this.symm
theorem JI.join (hn : n ≤ 1000) (h2 : 2 ≤ n) (lw : LtW n w) {J : Nat → Prop} (h : JI n S w J) {i : Nat} (hi : i + 1 < n) (k : Und n S (w ++ [ltr i])) : JI n S (w ++ [ltr i]) fun j => J j ∧ j ≠ i := fun j hj hjn =>
  und_two hn h2 lw hi hjn (Ne.symm hj.2) k (h j hj.1 hjn)
theorem JI.new (hn : n ≤ 1000) (h2 : 2 ≤ n) (hD : IsUp n D (hf n)) (lw : LtW n w) {i : Nat} (hi : i + 1 < n) : JI n (topN D w) (w ++ [ltr i]) fun j => j ≠ i := fun _ hj hjn =>
  und_two hn h2 lw hi hjn (Ne.symm hj) (und_top hn hD hi) (und_top hn hD hjn)
theorem back_one {i : Nat} (hi : i + 1 < n) (w : List Int) : BE n (w ++ [-ltr i] ++ [ltr i]) w := by
  have := cancelAt (v := w) (lt_neg (lt_ltr hi)); rwa [Int.neg_neg] at this
theorem JI.neg (hn : n ≤ 1000) (h2 : 2 ≤ n) (hD : IsUp n D (hf n)) (lw : LtW n w) {J : Nat → Prop} (h : JI n S w J) (low : Und n S w) {i : Nat} (hi : i + 1 < n) (hJ : J i) : JI n (topM S D (w ++ [-ltr i])) (w ++ [-ltr i]) J := fun j hj hjn t ht => by
  rcases ht with ht | rfl
  · by_cases e : j = i
    · subst e
      exact (low t ht).congr (back_one hi w).symm (.refl _)
    · have hji := h j hj hjn
      by_cases hf : i + 1 < j ∨ j + 1 < i
      · have h1 : BE n (w ++ [ltr j] ++ [-ltr i]) (w ++ [-ltr i] ++ [ltr j]) := by
          have := (BE.far (n := n) (x := ltr j) (y := -ltr i) (lt_ltr hjn) (lt_neg (lt_ltr hi)) (by rw [Int.natAbs_neg]; unfold ltr; omega)).pre w
          simpa using this
        exact (((neg1 hi).le (w ++ [ltr j])).trans (hji t ht)).congr h1 (.refl _)
      · have hnear : i + 1 = j ∨ j + 1 = i := by omega
        have h1 := und_two hn h2 lw hjn hi e hji (h i hJ hi) t ht
        -- m j <= m j i j = m i j i = w j i
        have h3 : LeB n (w ++ [-ltr i] ++ [ltr j]) (w ++ [-ltr i] ++ [ltr j, ltr i, ltr j]) := ⟨[ltr i, ltr j], .cons (pos_ltr hi) (.one (pos_ltr hjn)), by simp; exact .refl _⟩
        have h4 : BE n (w ++ [-ltr i] ++ [ltr j, ltr i, ltr j]) (w ++ [ltr j] ++ [ltr i]) := by
          have h5 := (braid_near hjn hi (show j + 1 = i ∨ i + 1 = j by omega)).pre (w ++ [-ltr i])
          have h6 := (back_one hi w).post [ltr j, ltr i]
          simp only [List.append_assoc, List.cons_append, List.nil_append] at h5 h6 ⊢
          exact h5.trans h6
        exact (h3.congr (.refl _) h4).trans h1
  · have h1 := und_top (n := n) (w := w ++ [-ltr i]) hn hD hjn
    exact h1 _ rfl
theorem JI.sub {J K : Nat → Prop} (h : JI n S w J) (k : ∀ j, K j → J j) : JI n S w K := fun j hj hjn => h j (k j hj) hjn

/-! ### Blocks -/
/-- A word that stands for the block of the index b: it moves all letters but b, and begins with b. -/
structure Blk1 (n : Nat) (D : List Int) (X : Nat → List Int) : Prop where
  pos : ∀ b, b + 1 < n → PosW n (X b)
  head : ∀ b, b + 1 < n → LeB n [ltr b] (X b)
  half : ∀ b, b + 1 < n → LeB n (X b) (powB 1 D)
  past : ∀ b i, b + 1 < n → i + 1 < n → i ≠ b → ∃ k, k + 1 < n ∧ BE n (ltr i :: X b) (X b ++ [ltr k])
  lcm : ∀ b i, b + 1 < n → i + 1 < n → i ≠ b → ∀ z p, LtW n z → LeB n (z ++ [ltr i]) p → LeB n (z ++ X b) p → LeB n (z ++ (ltr i :: X b)) p
def JX (n : Nat) (X : Nat → List Int) (S : List Int → Prop) (w : List Int) (U : Nat → Prop) : Prop := ∀ b, U b → b + 1 < n → Und n S (w ++ X b)
variable {X : Nat → List Int}
theorem JX.sub {U V : Nat → Prop} (h : JX n X S w U) (k : ∀ b, V b → U b) : JX n X S w V := fun b hb hbn => h b (k b hb) hbn
theorem JX.one (hX : Blk1 n D X) {U : Nat → Prop} (h : JX n X S w U) {b : Nat} (hb : U b) (hbn : b + 1 < n) : Und n S (w ++ [ltr b]) := (h b hb hbn).down ((hX.head b hbn).pre w)
theorem JX.join (hX : Blk1 n D X) (lw : LtW n w) {U : Nat → Prop} (h : JX n X S w U) {i : Nat} (hi : i + 1 < n) (k : Und n S (w ++ [ltr i])) : JX n X S (w ++ [ltr i]) fun b => U b ∧ b ≠ i := fun b hb hbn t ht => by
  have := hX.lcm b i hbn hi (Ne.symm hb.2) w t lw (k t ht) (h b hb.1 hbn t ht)
  simpa using this
theorem JX.start (hX : Blk1 n D X) (w : List Int) (U : Nat → Prop) : JX n X (topN D w) w U := fun b _ hbn t ht => by
  rw [ht]; exact (hX.half b hbn).pre w
theorem JX.new (hn : n ≤ 1000) (hD : IsUp n D (hf n)) (hX : Blk1 n D X) (lw : LtW n w) {i : Nat} (hi : i + 1 < n) : JX n X (topN D w) (w ++ [ltr i]) fun b => b ≠ i :=
  (JX.join hX lw (JX.start hX w fun _ => True) hi (und_top hn hD hi)).sub fun _ hb => ⟨trivial, hb⟩
theorem JX.neg (hX : Blk1 n D X) {U : Nat → Prop} (h : JX n X S w U) {i : Nat} (hi : i + 1 < n) (hU : ∀ b, U b → b ≠ i) : JX n X (topM S D (w ++ [-ltr i])) (w ++ [-ltr i]) U := fun b hb hbn t ht => by
  rcases ht with ht | rfl
  · obtain ⟨k, hk, e⟩ := hX.past b i hbn hi (Ne.symm (hU b hb))
    -- -i X = X -k
    have h1 : BE n ([-ltr i] ++ X b) (X b ++ [-ltr k]) := by
      have h3 := BE.ctx [-ltr i] [-ltr k] e
      have h4 := (BE.cancel (n := n) (x := ltr k) (lt_ltr hk)).pre ([-ltr i] ++ X b)
      have h5 := (BE.cancel (n := n) (x := -ltr i) (lt_neg (lt_ltr hi))).post (X b ++ [-ltr k])
      rw [Int.neg_neg] at h5
      simp only [List.append_assoc, List.cons_append, List.nil_append, List.append_nil] at h3 h4 h5 ⊢
      exact (h3.symm.trans h5 |>.symm.trans h4 |>.symm)
    have h6 := ((neg1 hk).le (w ++ X b)).trans (h b hb hbn t ht)
    refine h6.congr ?_ (.refl _)
    have := (h1.pre w).symm
    simpa using this
  · exact (hX.half b hbn).pre _
end
end Go.Proofs.Ytnmklkjlcpgjmaa

namespace Go.Proofs.Ytnmklkjlcpgjmaa
open Go.RowKit Go.Sl

section
variable {n : Nat}
def wL (u : List Nat) : List Int := u.map ltr
theorem wL_app (u v : List Nat) : wL (u ++ v) = wL u ++ wL v := by simp [wL]
theorem wL_cons (i : Nat) (v : List Nat) : wL (i :: v) = ltr i :: wL v := rfl
/-- The rest of the least common multiple of two letters. -/
def rstN (i j : Nat) : List Nat := if i + 1 < j ∨ j + 1 < i then [j] else [j, i]
theorem rst_lcm {i j : Nat} (h : i ≠ j) : lcmB i j = ltr i :: wL (rstN i j) := by
  unfold lcmB rstN
  by_cases hf : i + 1 < j ∨ j + 1 < i
  · rw [if_pos hf, if_pos hf]; rfl
  · rw [if_neg hf, if_neg hf, if_neg h]; rfl
def inN (n : Nat) (u : List Nat) : Prop := ∀ i ∈ u, i + 1 < n
theorem inN_lt {u : List Nat} (h : inN n u) : LtW n (wL u) := fun x hx => by
  obtain ⟨i, hi, rfl⟩ := List.mem_map.1 hx
  exact lt_ltr (h i hi)
theorem inN_pos {u : List Nat} (h : inN n u) : PosW n (wL u) := fun x hx => by
  obtain ⟨i, hi, rfl⟩ := List.mem_map.1 hx
  exact pos_ltr (h i hi)
theorem inN_rst {i j : Nat} (hi : i + 1 < n) (hj : j + 1 < n) : inN n (rstN i j) := by
  unfold rstN
  intro k hk
  split at hk <;> (simp at hk; omega)
/-- Both words divided by each other. -/
def resN : Nat → List Nat → List Nat → Option (List Nat × List Nat)
  | 0, _, _ => none
  | f + 1, u, v => match u, v with
    | [], v => some (v, [])
    | u, [] => some ([], u)
    | i :: u, j :: v => if i = j then resN f u v else
      match resN f u (rstN i j), resN f v (rstN j i) with
      | some (a, u1), some (c, v1) => match resN f u1 v1 with
        | some (v2, u2) => some (a ++ v2, c ++ u2)
        | none => none
      | _, _ => none
structure Res (n : Nat) (u v v' u' : List Nat) : Prop where
  in1 : inN n v'
  in2 : inN n u'
  eq : BE n (wL u ++ wL v') (wL v ++ wL u')
  le : ∀ z p, LtW n z → LeB n (z ++ wL u) p → LeB n (z ++ wL v) p → LeB n (z ++ (wL u ++ wL v')) p
theorem inN_tl {i : Nat} {u : List Nat} (h : inN n (i :: u)) : inN n u := fun j hj => h j (by simp [hj])
theorem inN_app {u v : List Nat} (h : inN n u) (k : inN n v) : inN n (u ++ v) := fun i hi => (List.mem_append.1 hi).elim (h i) (k i)
theorem res_ok (hn : n ≤ 1000) (h2 : 2 ≤ n) : ∀ (f : Nat) (u v v' u' : List Nat), inN n u → inN n v → resN f u v = some (v', u') → Res n u v v' u' := by
  intro f
  induction f with
  | zero => intro u v v' u' _ _ h; cases h
  | succ f ih =>
    intro u v v' u' hu hv h
    cases u with
    | nil =>
      obtain ⟨rfl, rfl⟩ := Prod.mk.inj (Option.some.inj h)
      exact ⟨hv, fun i hi => by simp at hi, by simp [wL]; exact .refl _, fun z p _ _ h3 => by simpa [wL] using h3⟩
    | cons i u =>
      cases v with
      | nil =>
        obtain ⟨rfl, rfl⟩ := Prod.mk.inj (Option.some.inj h)
        exact ⟨fun i hi => by simp at hi, hu, by simp [wL]; exact .refl _, fun z p _ h3 _ => by simpa [wL] using h3⟩
      | cons j v =>
        have hi := hu i (by simp)
        have hj := hv j (by simp)
        have tu := inN_tl hu
        have tv := inN_tl hv
        by_cases e : i = j
        · subst e
          have h' : resN f u v = some (v', u') := by
            have : resN (f + 1) (i :: u) (i :: v) = resN f u v := by simp only [resN, if_true]
            rw [this] at h; exact h
          have r := ih u v v' u' tu tv h'
          refine ⟨r.in1, r.in2, ?_, fun z p lz h1 h3 => ?_⟩
          · have := r.eq.pre [ltr i]
            simpa [wL_cons] using this
          · have := r.le (z ++ [ltr i]) p (lz.app (lw1 (lt_ltr hi))) (by simpa [wL_cons] using h1) (by simpa [wL_cons] using h3)
            simpa [wL_cons] using this
        · have h' : (match resN f u (rstN i j), resN f v (rstN j i) with
              | some (a, u1), some (c, v1) => (match resN f u1 v1 with
                | some (v2, u2) => some (a ++ v2, c ++ u2)
                | none => none)
              | _, _ => none) = some (v', u') := by
            have h3 := h
            simp only [resN] at h3
            rwa [if_neg e] at h3
          cases e1 : resN f u (rstN i j) with
          | none => rw [e1] at h'; cases h'
          | some au =>
            obtain ⟨a, u1⟩ := au
            cases e2 : resN f v (rstN j i) with
            | none => rw [e1, e2] at h'; cases h'
            | some cv =>
              obtain ⟨c, v1⟩ := cv
              rw [e1, e2] at h'
              cases e3 : resN f u1 v1 with
              | none => simp only [e3] at h'; cases h'
              | some vu =>
                obtain ⟨v2, u2⟩ := vu
                simp only [e3] at h'
                obtain ⟨rfl, rfl⟩ := Prod.mk.inj (Option.some.inj h')
                have r1 := ih _ _ _ _ tu (inN_rst hi hj) e1
                have r2 := ih _ _ _ _ tv (inN_rst hj hi) e2
                have r3 := ih _ _ _ _ r1.in2 r2.in2 e3
                have sw := ltr_swap hi hj
                rw [rst_lcm e, rst_lcm (Ne.symm e)] at sw
                -- i u a ~ i rst u1 ; j v c ~ j rst v1
                have q1 := r1.eq.pre [ltr i]
                have q2 := r2.eq.pre [ltr j]
                refine ⟨inN_app r1.in1 r3.in1, inN_app r2.in1 r3.in2, ?_, fun z p lz h1 h3 => ?_⟩
                · have p1 := q1.post (wL v2)
                  have p2 := r3.eq.pre (ltr i :: wL (rstN i j))
                  have p3 := sw.post (wL v1 ++ wL u2)
                  have p4 := q2.post (wL u2)
                  simp only [wL_cons, wL_app, List.append_assoc, List.cons_append, List.nil_append] at p1 p2 p3 p4 ⊢
                  exact (p1.trans p2).trans (p3.trans p4.symm)
                · have li : LtW n (z ++ [ltr i]) := lz.app (lw1 (lt_ltr hi))
                  have lj : LtW n (z ++ [ltr j]) := lz.app (lw1 (lt_ltr hj))
                  have zi : LeB n (z ++ [ltr i]) p := (LeB.add (inN_pos tu)).trans (by simpa [wL_cons] using h1)
                  have zj : LeB n (z ++ [ltr j]) p := (LeB.add (inN_pos tv)).trans (by simpa [wL_cons] using h3)
                  have zl := LeB.lcm hn h2 hi hj lz zi zj
                  have zl2 := LeB.lcm hn h2 hj hi lz zj zi
                  rw [rst_lcm e] at zl
                  rw [rst_lcm (Ne.symm e)] at zl2
                  have s1 := r1.le (z ++ [ltr i]) p li (by simpa [wL_cons] using h1) (by simpa using zl)
                  have s2 := r2.le (z ++ [ltr j]) p lj (by simpa [wL_cons] using h3) (by simpa using zl2)
                  have lm : LtW n (z ++ (ltr i :: wL (rstN i j))) := by
                    have := (lz.app (lw1 (lt_ltr hi))).app (inN_lt (inN_rst hi hj))
                    simpa using this
                  have t1 : LeB n ((z ++ (ltr i :: wL (rstN i j))) ++ wL u1) p := s1.congr (by
                    have := q1.pre z
                    simpa using this) (.refl _)
                  have t2 : LeB n ((z ++ (ltr i :: wL (rstN i j))) ++ wL v1) p := s2.congr (by
                    have a1 := q2.pre z
                    have a2 := (sw.symm.post (wL v1)).pre z
                    simp only [List.append_assoc, List.cons_append, List.nil_append] at a1 a2 ⊢
                    exact a1.trans a2) (.refl _)
                  have t3 := r3.le _ p lm t1 t2
                  refine t3.congr ?_ (.refl _)
                  have := (q1.post (wL v2)).symm.pre z
                  simpa [wL_cons, wL_app] using this

/-! ### Reduced words -/
def upW : List Nat → List Int → Bool
  | [], _ => true
  | j :: w, f => decide (nth (backL f) j < nth (backL f) (j + 1)) && upW w (swapV f j)
theorem upW_spec : ∀ (w : List Nat) (w0 f : List Int), inN n w → IsUp n w0 f → upW w f = true → IsUp n (w0 ++ wL w) (w.foldl swapV f) := by
  intro w
  induction w with
  | nil => intro w0 f _ h _; simpa [wL] using h
  | cons j w ih =>
    intro w0 f hw h k
    simp only [upW, Bool.and_eq_true, decide_eq_true_eq] at k
    have := ih (w0 ++ [ltr j]) (swapV f j) (inN_tl hw) (.snoc h (hw j (by simp)) k.1) k.2
    simpa [wL_cons] using this
end
/-! ### The blocks -/
def xN (n b : Nat) : List Nat := (List.range (b + 1)).flatMap fun r => (List.range (n - 1 - b)).map fun t => b - r + t
def halfN (lo m : Nat) : List Nat := (List.range m).flatMap fun r => (List.range (m - r)).map fun t => lo + t
def cN (n b : Nat) : List Nat := halfN 0 (n - 2 - b) ++ halfN (n - 1 - b) b
def kN (n b i : Nat) : Nat := if i < b then i + (n - 1 - b) else i - (b + 1)
def blkOK (n : Nat) : Bool :=
  (List.range (n - 1)).all fun b => (xN n b).all (fun j => decide (j + 1 < n)) && (cN n b).all (fun j => decide (j + 1 < n)) && decide ((xN n b).head? = some b) &&
    upW (xN n b ++ cN n b) (iota n) && decide ((xN n b ++ cN n b).foldl swapV (iota n) = hf n) &&
    (List.range (n - 1)).all fun i => decide (i = b) || (decide (kN n b i + 1 < n) && upW (i :: xN n b) (iota n) && upW (xN n b ++ [kN n b i]) (iota n) &&
      decide ((i :: xN n b).foldl swapV (iota n) = (xN n b ++ [kN n b i]).foldl swapV (iota n)) &&
      (match resN 200 [i] (xN n b) with
        | some (_, u) => decide (u = [kN n b i])
        | none => false))
theorem blk6 : blkOK 6 = true := by decide +kernel
theorem blk_of {n : Nat} (hn : n ≤ 1000) (h2 : 2 ≤ n) {D : List Int} (hD : IsUp n D (hf n)) (h : blkOK n = true) : Blk1 n D fun b => wL (xN n b) := by
  have hb : ∀ b, b + 1 < n → _ := fun b hbn => List.all_eq_true.1 h b (List.mem_range.2 (by omega))
  simp only [Bool.and_eq_true, decide_eq_true_eq] at hb
  have h1 : ∀ b, b + 1 < n → inN n (xN n b) := fun b hbn i hi => by
    have := List.all_eq_true.1 (hb b hbn).1.1.1.1.1 i hi
    simpa using this
  have h3 : ∀ b, b + 1 < n → inN n (cN n b) := fun b hbn i hi => by
    have := List.all_eq_true.1 (hb b hbn).1.1.1.1.2 i hi
    simpa using this
  have h4 : ∀ b i, b + 1 < n → i + 1 < n → i ≠ b → _ := fun b i hbn hi hne => List.all_eq_true.1 (hb b hbn).2 i (List.mem_range.2 (by omega))
  have past : ∀ b i, b + 1 < n → i + 1 < n → i ≠ b → kN n b i + 1 < n ∧ BE n (ltr i :: wL (xN n b)) (wL (xN n b) ++ [ltr (kN n b i)]) ∧ ∃ v, resN 200 [i] (xN n b) = some (v, [kN n b i]) := by
    intro b i hbn hi hne
    have h5 := h4 b i hbn hi hne
    rw [Bool.or_eq_true] at h5
    have h6 := h5.resolve_left (by simpa using hne)
    simp only [Bool.and_eq_true, decide_eq_true_eq] at h6
    obtain ⟨⟨⟨⟨k1, k2⟩, k3⟩, k4⟩, k5⟩ := h6
    have a1 := upW_spec (n := n) (i :: xN n b) [] _ (fun j hj => by
      rcases List.mem_cons.1 hj with rfl | hj
      · exact hi
      · exact h1 b hbn j hj) .nil k2
    have a2 := upW_spec (n := n) (xN n b ++ [kN n b i]) [] _ (inN_app (h1 b hbn) fun j hj => by rw [List.mem_singleton.1 hj]; exact k1) .nil k3
    rw [k4] at a1
    refine ⟨k1, ?_, ?_⟩
    · have := mats hn a1 a2
      simpa [wL_cons, wL_app, wL] using this
    · cases e : resN 200 [i] (xN n b) with
      | none => rw [e] at k5; cases k5
      | some p =>
        obtain ⟨v, u⟩ := p
        rw [e] at k5
        have : u = [kN n b i] := by simpa using k5
        exact ⟨v, by rw [this]⟩
  refine ⟨fun b hbn => inN_pos (h1 b hbn), fun b hbn => ?_, fun b hbn => ?_, fun b i hbn hi hne => ⟨_, (past b i hbn hi hne).1, (past b i hbn hi hne).2.1⟩, fun b i hbn hi hne z p lz k1 k2 => ?_⟩
  · have e := (hb b hbn).1.1.1.2
    have hin := h1 b hbn
    show LeB n [ltr b] (wL (xN n b))
    cases hx : xN n b with
    | nil => rw [hx] at e; cases e
    | cons y t =>
      rw [hx] at e hin
      obtain rfl := Option.some.inj e
      exact ⟨wL t, inN_pos (inN_tl hin), .refl _⟩
  · have a1 := upW_spec (n := n) (xN n b ++ cN n b) [] _ (inN_app (h1 b hbn) (h3 b hbn)) .nil (hb b hbn).1.1.2
    rw [(hb b hbn).1.2, List.nil_append, wL_app] at a1
    refine ⟨wL (cN n b), inN_pos (h3 b hbn), (mats hn a1 hD).trans ?_⟩
    have := powB_succ (n := n) hD.lt 0
    rw [powB_zero, List.nil_append] at this
    exact this.symm
  · obtain ⟨_, e, v, hv⟩ := past b i hbn hi hne
    have r := res_ok hn h2 200 [i] (xN n b) v _ (fun j hj => by rw [List.mem_singleton.1 hj]; exact hi) (h1 b hbn) hv
    have := r.le z p lz k1 k2
    refine this.congr ?_ (.refl _)
    have := (r.eq.trans e.symm).pre z
    exact this
end Go.Proofs.Ytnmklkjlcpgjmaa

namespace Go.Proofs.Ytnmklkjlcpgjmaa
open Go.RowKit Go.Sl

def cntQ (tri : List (Msk × Msk × Nat)) : Nat → Msk → Nat
  | 0, _ => 1
  | m + 1, K => (tri.map fun t => if subM t.1 K = true then cntQ tri m t.2.1 else 0).sum
theorem sum_map_le {α : Type} (f g : α → Nat) (h : ∀ a, f a ≤ g a) (l : List α) : (l.map f).sum ≤ (l.map g).sum := by
  induction l with
  | nil => simp
  | cons a l ih => have := h a; simp only [List.map_cons, List.sum_cons]; omega
theorem cntP_le (tri : List (Msk × Msk × Nat)) : ∀ m L K, cntP tri m L K ≤ cntQ tri m K := by
  intro m
  induction m with
  | zero => intro L K; exact Nat.le_refl _
  | succ m ih =>
    intro L K
    rw [cntP, cntQ]
    refine sum_map_le _ _ (fun t => ?_) tri
    by_cases h1 : subM t.1 K = true
    · by_cases h2 : t.2.2 ≤ L
      · rw [if_pos ⟨h1, h2⟩, if_pos h1]; exact ih _ _
      · rw [if_neg fun h => h2 h.2]; exact Nat.zero_le _
    · rw [if_neg fun h => h1 h.1]; exact Nat.zero_le _
def lookQ (T : List (Msk × Nat)) (K : Msk) : Nat := match T with
  | [] => 0
  | p :: T => if p.1 = K then p.2 else lookQ T K
def stepQ (tri : List (Msk × Msk × Nat)) (keys : List Msk) (T : List (Msk × Nat)) : List (Msk × Nat) :=
  keys.map fun K => (K, tri.foldl (fun acc t => if subM t.1 K = true then acc + lookQ T t.2.1 else acc) 0)
def tabQ (tri : List (Msk × Msk × Nat)) (keys : List Msk) : Nat → List (Msk × Nat)
  | 0 => keys.map fun K => (K, 1)
  | m + 1 => stepQ tri keys (tabQ tri keys m)
theorem lookQ_map {keys : List Msk} {f : Msk → Nat} {K : Msk} (h : K ∈ keys) : lookQ (keys.map fun K => (K, f K)) K = f K := by
  induction keys with
  | nil => simp at h
  | cons k keys ih =>
    rw [List.map_cons, lookQ]
    by_cases e : k = K
    · subst e; simp
    · rw [if_neg e]
      exact ih ((List.mem_cons.1 h).resolve_left fun h => e h.symm)
theorem foldQ (K : Msk) (f : Msk → Nat) (T : List (Msk × Nat)) : ∀ (tri : List (Msk × Msk × Nat)) (g : Nat), (∀ t ∈ tri, lookQ T t.2.1 = f t.2.1) → tri.foldl (fun acc t => if subM t.1 K = true then acc + lookQ T t.2.1 else acc) g = g + (tri.map fun t => if subM t.1 K = true then f t.2.1 else 0).sum := by
  intro tri
  induction tri with
  | nil => intro g _; simp
  | cons t tri ih =>
    intro g h
    rw [List.foldl_cons, List.map_cons, List.sum_cons]
    have h2 := fun s hs => h s (List.mem_cons_of_mem t hs)
    by_cases hs : subM t.1 K = true
    · rw [if_pos hs, if_pos hs, h t (by simp), ih _ h2]; omega
    · rw [if_neg hs, if_neg hs, ih _ h2]; omega
theorem tabQ_eq (tri : List (Msk × Msk × Nat)) (keys : List Msk) (hk : ∀ t ∈ tri, t.2.1 ∈ keys) : ∀ (m : Nat) (K : Msk), K ∈ keys → lookQ (tabQ tri keys m) K = cntQ tri m K := by
  intro m
  induction m with
  | zero =>
    intro K hK
    rw [tabQ, lookQ_map (f := fun _ => 1) hK]
    rfl
  | succ m ih =>
    intro K hK
    rw [tabQ, stepQ, lookQ_map (f := fun K => tri.foldl (fun acc t => if subM t.1 K = true then acc + lookQ (tabQ tri keys m) t.2.1 else acc) 0) hK, foldQ K (fun K => cntQ tri m K) _ tri 0 fun t ht => ih _ (hk t ht), Nat.zero_add, cntQ]
theorem tabQ_checks : (let t7 := tabQ (triP 5) keys5 7; let t8 := stepQ (triP 5) keys5 t7; decide (lookQ t7 (fullM 5) ≤ 10344011880 ∧ lookQ t8 (fullM 5) ≤ 193681778601)) = true := by decide +kernel
theorem cntQ_bounds : cntQ (triP 5) 7 (fullM 5) ≤ 10344011880 ∧ cntQ (triP 5) 8 (fullM 5) ≤ 193681778601 := by
  have hk : ∀ t ∈ triP 5, t.2.1 ∈ keys5 := fun t ht => by
    have := List.all_eq_true.1 keys_ok t ht
    simpa using this
  have hf : fullM 5 ∈ keys5 := by decide
  have e := fun m => tabQ_eq (triP 5) keys5 hk m (fullM 5) hf
  have h := of_decide_eq_true tabQ_checks
  exact ⟨by rw [← e 7]; exact h.1, by rw [← e 8]; exact h.2⟩
/-- Few vertices, whatever the word of at most 16 letters with no more positive letters than negative ones. -/
theorem few16 {w : List Int} (hw : LtW 5 w) (hl : w.length ≤ 16) (hpn : posN w ≤ negN w) : ∃ r D A B, IsUp 5 D (hf 5) ∧ LtW 5 A ∧ DrF 5 A B [] w ∧ Rho 5 r D w ∧ Few 5 r D A B 755112867313 ∧ (∃ X, Cover 5 A B X) := by
  obtain ⟨D, hD⟩ := up_exists (n := 5) (by decide) _ (pn_hf (by decide))
  have hDl : D.length = 10 := by rw [hD.len (by decide)]; decide
  obtain ⟨hex, hlen⟩ := ex_count hw
  have hcnt := cntQ_bounds
  obtain ⟨A, B, hA, hB, hAB, hm⟩ := box_low (n := 5) (s := negN w) (by decide) (by decide) hD hw hpn (Nat.le_refl _)
  rw [hDl] at hm
  have hdr : DrF 5 A B [] w := fun p s e => ⟨hA.2 p s e, hB.2 p s e⟩
  have hcov : ∃ X, Cover 5 A B X := by
    obtain ⟨X, hX, _⟩ := cover_of (n := 5) (by decide) (by decide) hD hA.1 hB.1 hAB (L := (exB B - exB A).toNat) (by omega)
    exact ⟨X, hX⟩
  have hA0 : LeB 5 A [] := hA.2 [] w (by simp)
  rcases Nat.lt_or_ge (posN w) 8 with h7 | h8
  · refine ⟨7, D, A, B, hD, hA.1, hdr, rho_start (by decide) hD hw (by omega), ?_, hcov⟩
    have sp : Span 5 7 D 10344011880 := fun Q lQ Z hZ hd => Nat.le_trans (span_cnt (r := 7) (by decide) (by decide) hD Q lQ Z hZ hd) (Nat.le_trans (cntP_le _ _ _ _) hcnt.1)
    exact few_low (m := 72) (by decide) (by decide) hD hA.1 hA0 sp (by omega)
  · refine ⟨16, D, A, B, hD, hA.1, hdr, rho_start (by decide) hD hw (by omega), ?_, hcov⟩
    have h8' : negN w = 8 := by omega
    rw [h8'] at hAB
    have sp : Span 5 8 D 193681778601 := fun Q lQ Z hZ hd => Nat.le_trans (span_cnt (r := 8) (by decide) (by decide) hD Q lQ Z hZ hd) (Nat.le_trans (cntP_le _ _ _ _) hcnt.2)
    exact (few_all (r := 16) hA.1 sp hAB).mono (by omega)
end Go.Proofs.Ytnmklkjlcpgjmaa

namespace Go.Proofs.Ytnmklkjlcpgjmaa
open Go.RowKit Go.Sl

/-- Words on the way, with a measure: none is longer than Lm. -/
structure Way (n Lm : Nat) (W : List Int → Nat → Prop) : Prop where
  len : ∀ {w m}, W w m → w.length ≤ Lm
  red : ∀ {w m}, W w m → W (redL w) m
  handle : ∀ {P M s : List Int} {x : Int} {m : Nat}, W (P ++ x :: M ++ (-x) :: s) m → Clean (P ++ x :: M) → (∀ y ∈ M, x.natAbs < y.natAbs) → 0 < m ∧ W (P ++ (midW x M ++ s)) (m - 1)
theorem way_of {n l r : Nat} {D A B : List Int} {X : List (List Int)} (hn : n ≤ 1000) (h2 : 2 ≤ n) (hD : IsUp n D (hf n)) (hA : LtW n A) (hX : Cover n A B X) {M : Nat} (hF : Few n r D A B M) : Way n (M + (l + (n - 2) * 2 * (3 * M))) (fun w m => OnWayR n l r D A B X w m) :=
  ⟨fun h => h.len hX hF, fun h => h.redL hn h2 hD hA hX, fun h hc hM => h.handle hn h2 hD hA hX hc hM⟩

def negL (w : List Int) : List Int := w.map fun z => -z
theorem negL_append (a b : List Int) : negL (a ++ b) = negL a ++ negL b := by simp [negL]
theorem negL_cons (x : Int) (a : List Int) : negL (x :: a) = (-x) :: negL a := rfl
theorem negL_negL (a : List Int) : negL (negL a) = a := by simp [negL, Function.comp_def]
theorem negL_len (a : List Int) : (negL a).length = a.length := by simp [negL]
theorem negL_mem {a : List Int} {z : Int} (h : z ∈ negL a) : -z ∈ a := by
  obtain ⟨y, hy, rfl⟩ := List.mem_map.1 h
  rwa [Int.neg_neg]
theorem negL_lt {n : Nat} {a : List Int} (h : LtW n a) : LtW n (negL a) := fun z hz => by
  have := lt_neg (h _ (negL_mem hz))
  rwa [Int.neg_neg] at this
theorem negL_psh (s : List Int) (x : Int) : psh (negL s) (-x) = negL (psh s x) := by
  cases s with
  | nil => simp [psh, negL]
  | cons y t =>
    have e1 : psh (y :: t) x = if y = -x then t else x :: y :: t := rfl
    have e2 : psh (negL (y :: t)) (-x) = if -y = - -x then negL t else (-x) :: (-y) :: negL t := rfl
    rw [e1, e2]
    by_cases h : y = -x
    · rw [if_pos h, if_pos (by omega)]
    · rw [if_neg h, if_neg (by omega)]
      rfl
theorem negL_act (b : List Int) : ∀ s, act (negL s) (negL b) = negL (act s b) := by
  induction b with
  | nil => exact fun _ => rfl
  | cons x b ih =>
    intro s
    show act (psh (negL s) (-x)) (negL b) = negL (act (psh s x) b)
    rw [negL_psh, ih]
theorem negL_redL (w : List Int) : redL (negL w) = negL (redL w) := by
  have := negL_act w []
  unfold redL
  have e : negL [] = [] := rfl
  rw [e] at this
  rw [this]
  simp [negL]
theorem negL_clean {w : List Int} (h : Clean w) : Clean (negL w) := fun p z s e hc => by
  obtain ⟨P, M, e2, hM⟩ := hc
  refine h (negL p) (-z) (negL s) ?_ ⟨negL P, negL M, ?_, fun y hy => ?_⟩
  · have := congrArg negL e
    rw [negL_negL, negL_append, negL_cons] at this
    exact this
  · rw [e2, negL_append, negL_cons]
  · have := hM _ (negL_mem hy)
    rw [Int.natAbs_neg] at this ⊢
    exact this
theorem negL_midB (x y : Int) : midB (-x) (-y) = negL (midB x y) := by
  unfold midB
  rw [Int.natAbs_neg, Int.natAbs_neg]
  by_cases h : y.natAbs = x.natAbs + 1
  · rw [if_pos h, if_pos h]
    simp only [negL, List.map_cons, List.map_nil, Int.sign_neg, Int.neg_mul, Int.neg_neg]
  · rw [if_neg h, if_neg h]
    rfl
theorem negL_midW (x : Int) (M : List Int) : midW (-x) (negL M) = negL (midW x M) := by
  induction M with
  | nil => rfl
  | cons y M ih => rw [negL_cons, midW_cons, midW_cons, negL_append, negL_midB, ih]
theorem way_neg {n Lm : Nat} {W : List Int → Nat → Prop} (h : Way n Lm W) : Way n Lm (fun w m => W (negL w) m) :=
  ⟨fun {w m} hw => by have := h.len hw; rwa [negL_len] at this, fun {w m} hw => by
    have := h.red hw
    rwa [negL_redL] at this, fun {P M s x m} hw hc hM => by
    have e : negL (P ++ x :: M ++ (-x) :: s) = negL P ++ (-x) :: negL M ++ (- -x) :: negL s := by simp [negL]
    rw [e] at hw
    have hc2 := negL_clean hc
    rw [negL_append, negL_cons] at hc2
    have := h.handle hw hc2 fun y hy => by
      have h2 := hM _ (negL_mem hy)
      rw [Int.natAbs_neg] at h2 ⊢
      exact h2
    refine ⟨this.1, ?_⟩
    have h3 := this.2
    rw [negL_midW] at h3
    have e2 : negL (P ++ (midW x M ++ s)) = negL P ++ (negL (midW x M) ++ negL s) := by simp [negL]
    rw [e2]
    exact h3⟩
theorem posN_neg (w : List Int) : posN (negL w) = negN w := by
  unfold posN negN negL
  rw [List.countP_map]
  refine List.countP_congr fun x _ => ?_
  simp
theorem negN_neg (w : List Int) : negN (negL w) = posN w := by
  have := posN_neg (negL w)
  rw [negL_negL] at this
  exact this.symm
/-- Handle reduction of this word is walked. -/
def RedOK (xs : List Int) : Prop := ∃ N Lm W, Way N Lm W ∧ Lm ≤ 16000000000000 ∧ ∃ m, W (redL xs) m
theorem redOK16 {xs : List Int} (h : LtW 5 xs) (hl : (redL xs).length ≤ 16) : RedOK xs := by
  obtain ⟨w, hw⟩ : ∃ w, redL xs = w := ⟨_, rfl⟩
  have lw : LtW 5 w := fun z hz => h z (redL_mem (by rw [hw]; exact hz))
  unfold RedOK
  rw [hw] at hl ⊢
  have key : ∀ w : List Int, LtW 5 w → w.length ≤ 16 → posN w ≤ negN w → ∃ N Lm W, Way N Lm W ∧ Lm ≤ 16000000000000 ∧ ∃ m, W w m := by
    intro w lw hl hp
    obtain ⟨r, D, A, B, hD, hA, hd, hr, hF, X, hX⟩ := few16 lw hl hp
    obtain ⟨m, hm⟩ := OnWayR.start (X := X) hD lw hd hl hr
    exact ⟨5, _, _, way_of (l := 16) (by decide) (by decide) hD hA hX hF, by omega, m, hm⟩
  rcases Nat.le_total (posN w) (negN w) with hp | hp
  · exact key w lw hl hp
  · obtain ⟨N, Lm, W, hW, hLm, m, hm⟩ := key (negL w) (negL_lt lw) (by rw [negL_len]; exact hl) (by rw [posN_neg, negN_neg]; exact hp)
    exact ⟨N, Lm, _, way_neg hW, hLm, m, hm⟩
end Go.Proofs.Ytnmklkjlcpgjmaa

namespace Go.Proofs.Ytnmklkjlcpgjmaa
open Go.RowKit Go.Sl

section
variable {n : Nat} {D w : List Int} {X : Nat → List Int}
def seenI (w : List Int) (j : Nat) : Prop := ltr j ∈ w ∨ -ltr j ∈ w
instance (w : List Int) (j : Nat) : Decidable (seenI w j) := inferInstanceAs (Decidable (_ ∨ _))
def seenN (n : Nat) (w : List Int) : Nat := (List.range (n - 1)).countP fun j => decide (seenI w j)
def bothB (n : Nat) (w : List Int) : Bool := (List.range (n - 1)).any fun j => decide (ltr j ∈ w ∧ -ltr j ∈ w)
theorem ltr_inj {i j : Nat} (h : ltr i = ltr j) : i = j := by unfold ltr at h; omega
theorem ltr_neg {i j : Nat} (h : -ltr j = ltr i) : False := by unfold ltr at h; omega
theorem bothB_iff : bothB n w = true ↔ ∃ j, j + 1 < n ∧ ltr j ∈ w ∧ -ltr j ∈ w := by
  unfold bothB
  rw [List.any_eq_true]
  constructor
  · rintro ⟨j, hj, h⟩
    rw [List.mem_range] at hj
    rw [decide_eq_true_eq] at h
    exact ⟨j, by omega, h.1, h.2⟩
  · rintro ⟨j, hj, h1, h2⟩
    exact ⟨j, List.mem_range.2 (by omega), decide_eq_true ⟨h1, h2⟩⟩
theorem bothB_not (h : bothB n w = false) {j : Nat} (hj : j + 1 < n) (h1 : ltr j ∈ w) : -ltr j ∉ w := fun h2 => by
  have := bothB_iff.2 ⟨j, hj, h1, h2⟩
  rw [h] at this; cases this
def wgt (n : Nat) (w : List Int) : Nat := seenN n w + if bothB n w = true then 1 else 0
/-- The letter i is of a new index, or the first one whose index was seen with the other sign only. -/
def Evt (n : Nat) (w : List Int) (i : Nat) : Prop := ¬ seenI w i ∨ (bothB n w = false ∧ ltr i ∉ w)
theorem seen_snoc {i j : Nat} : seenI (w ++ [ltr i]) j ↔ seenI w j ∨ j = i := by
  unfold seenI
  simp only [List.mem_append, List.mem_singleton]
  constructor
  · rintro ((h | h) | (h | h))
    · exact .inl (.inl h)
    · exact .inr (ltr_inj h)
    · exact .inl (.inr h)
    · exact (ltr_neg h).elim
  · rintro ((h | h) | rfl)
    · exact .inl (.inl h)
    · exact .inr (.inl h)
    · exact .inl (.inr rfl)
theorem both_snoc {i : Nat} (h : bothB n (w ++ [ltr i]) = true) : bothB n w = true ∨ (ltr i ∉ w ∧ -ltr i ∈ w) := by
  obtain ⟨j, hj, h1, h2⟩ := bothB_iff.1 h
  simp only [List.mem_append, List.mem_singleton] at h1 h2
  have h3 : -ltr j ∈ w := h2.resolve_right fun e => ltr_neg e
  rcases h1 with h1 | h1
  · exact .inl (bothB_iff.2 ⟨j, hj, h1, h3⟩)
  · obtain rfl := ltr_inj h1
    by_cases h4 : ltr j ∈ w
    · exact .inl (bothB_iff.2 ⟨j, hj, h4, h3⟩)
    · exact .inr ⟨h4, h3⟩
theorem both_keep {i : Nat} (h : bothB n (w ++ [ltr i]) = false) : bothB n w = false := by
  cases e : bothB n w
  · rfl
  · obtain ⟨j, hj, h1, h2⟩ := bothB_iff.1 e
    have := bothB_iff.2 ⟨j, hj, List.mem_append_left [ltr i] h1, List.mem_append_left [ltr i] h2⟩
    rw [h] at this; cases this
theorem countP_one (p : Nat → Bool) (i : Nat) : ∀ (l : List Nat), l.Nodup → l.countP (fun j => p j || decide (j = i)) ≤ l.countP p + 1 := by
  intro l
  induction l with
  | nil => intro _; simp
  | cons a l ih =>
    intro h
    have h1 := List.nodup_cons.1 h
    have h2 := ih h1.2
    by_cases e : a = i
    · subst e
      have : l.countP (fun j => p j || decide (j = a)) = l.countP p := List.countP_congr fun j hj => by
        have : j ≠ a := fun e => h1.1 (e ▸ hj)
        simp [this]
      rw [List.countP_cons, List.countP_cons, this]
      split <;> split <;> omega
    · rw [List.countP_cons, List.countP_cons]
      have : (p a || decide (a = i)) = p a := by simp [e]
      rw [this]
      omega
theorem seenN_one {i : Nat} : seenN n (w ++ [ltr i]) ≤ seenN n w + 1 := by
  unfold seenN
  have h := countP_one (fun j => decide (seenI w j)) i (List.range (n - 1)) List.nodup_range
  refine Nat.le_trans (Nat.le_of_eq (List.countP_congr fun j _ => ?_)) h
  simp only [decide_eq_true_eq, Bool.or_eq_true]
  exact seen_snoc
theorem seenN_same {i : Nat} (h : seenI w i) : seenN n (w ++ [ltr i]) = seenN n w := by
  unfold seenN
  refine List.countP_congr fun j _ => ?_
  simp only [decide_eq_true_eq]
  rw [seen_snoc]
  constructor
  · rintro (h1 | rfl)
    · exact h1
    · exact h
  · exact .inl
theorem wgt_evt {i : Nat} : wgt n (w ++ [ltr i]) ≤ wgt n w + 1 := by
  unfold wgt
  by_cases hs : seenI w i
  · rw [seenN_same hs]
    split <;> split <;> omega
  · have h1 := seenN_one (n := n) (w := w) (i := i)
    by_cases hb : bothB n (w ++ [ltr i]) = true
    · rcases both_snoc hb with h | ⟨_, h⟩
      · rw [if_pos hb, if_pos h]; omega
      · exact absurd (.inr h) hs
    · rw [if_neg hb]; split <;> omega
theorem wgt_no {i : Nat} (h : ¬ Evt n w i) : wgt n (w ++ [ltr i]) ≤ wgt n w := by
  unfold Evt at h
  have hs : seenI w i := Classical.byContradiction fun h3 => h (.inl h3)
  unfold wgt
  rw [seenN_same hs]
  by_cases hb : bothB n (w ++ [ltr i]) = true
  · have h3 : bothB n w = true := by
      cases e : bothB n w
      · exfalso
        rcases both_snoc hb with h4 | ⟨h4, _⟩
        · rw [e] at h4; cases h4
        · exact h (.inr ⟨e, h4⟩)
      · rfl
    rw [if_pos hb, if_pos h3]; exact Nat.le_refl _
  · rw [if_neg hb]; omega
/-- The state behind a word. -/
structure Core (n : Nat) (D : List Int) (X : Nat → List Int) (w : List Int) (g h : Nat) (S T : List Int → Prop) : Prop where
  p : Gr n D w g S
  m : Gr n D (negL w) h T
  xp : JX n X S w fun j => ¬ seenI w j
  xm : JX n X T (negL w) fun j => ¬ seenI w j
  ip : bothB n w = false → JI n S w fun j => ltr j ∉ w
  im : bothB n w = false → JI n T (negL w) fun j => -ltr j ∉ w
theorem Core.evt {g h : Nat} {S T : List Int → Prop} (hX : Blk1 n D X) (c : Core n D X w g h S T) {i : Nat} (hi : i + 1 < n) (e : Evt n w i) : Und n S (w ++ [ltr i]) := by
  rcases e with e | ⟨e1, e2⟩
  · exact c.xp.one hX e hi
  · exact c.ip e1 i e2 hi
theorem negL_one (i : Nat) : negL (w ++ [ltr i]) = negL w ++ [-ltr i] := by rw [negL_append]; rfl
theorem seen_mono {i j : Nat} (h : ¬ seenI (w ++ [ltr i]) j) : ¬ seenI w j ∧ j ≠ i := ⟨fun k => h (seen_snoc.2 (.inl k)), fun k => h (seen_snoc.2 (.inr k))⟩
theorem Core.other (hn : n ≤ 1000) (h2 : 2 ≤ n) (hD : IsUp n D (hf n)) (hX : Blk1 n D X) {g h : Nat} {S T : List Int → Prop} (lw : LtW n w) (c : Core n D X w g h S T) {i : Nat} (hi : i + 1 < n) :
    Gr n D (negL (w ++ [ltr i])) h (topM T D (negL w ++ [-ltr i])) ∧ JX n X (topM T D (negL w ++ [-ltr i])) (negL (w ++ [ltr i])) (fun j => ¬ seenI (w ++ [ltr i]) j) ∧
    (bothB n (w ++ [ltr i]) = false → JI n (topM T D (negL w ++ [-ltr i])) (negL (w ++ [ltr i])) fun j => -ltr j ∉ w ++ [ltr i]) := by
  rw [negL_one]
  refine ⟨c.m.neg hD (negL_lt lw) hi, JX.neg hX (c.xm.sub fun j hj => (seen_mono hj).1) hi fun j hj => (seen_mono hj).2, fun hb => ?_⟩
  have hb0 := both_keep hb
  have hni : -ltr i ∉ w := fun h3 => bothB_not hb hi (by simp) (List.mem_append_left _ h3)
  exact (JI.neg hn h2 hD (negL_lt lw) (c.im hb0) c.m.low hi hni).sub fun j hj h3 => hj (List.mem_append_left _ h3)
theorem Core.join (hn : n ≤ 1000) (h2 : 2 ≤ n) (hD : IsUp n D (hf n)) (hX : Blk1 n D X) {g h : Nat} {S T : List Int → Prop} (lw : LtW n w) (c : Core n D X w g h S T) {i : Nat} (hi : i + 1 < n) (k : Und n S (w ++ [ltr i])) :
    ∃ T', Core n D X (w ++ [ltr i]) g h S T' := by
  obtain ⟨o1, o2, o3⟩ := c.other hn h2 hD hX lw hi
  refine ⟨_, c.p.join hn hD lw hi k, o1, (c.xp.join hX lw hi k).sub fun j hj => seen_mono hj, o2, fun hb => ?_, o3⟩
  exact ((c.ip (both_keep hb)).join hn h2 lw hi k).sub fun j hj => ⟨fun h3 => hj (List.mem_append_left _ h3), fun e => hj (by rw [e]; simp)⟩
theorem Core.new (hn : n ≤ 1000) (h2 : 2 ≤ n) (hD : IsUp n D (hf n)) (hX : Blk1 n D X) {g h : Nat} {S T : List Int → Prop} (lw : LtW n w) (c : Core n D X w g h S T) {i : Nat} (hi : i + 1 < n) :
    ∃ T', Core n D X (w ++ [ltr i]) (g + 1) h (topN D w) T' := by
  obtain ⟨o1, o2, o3⟩ := c.other hn h2 hD hX lw hi
  refine ⟨_, c.p.new hn hD lw hi, o1, (JX.new hn hD hX lw hi).sub fun j hj => (seen_mono hj).2, o2, fun _ => ?_, o3⟩
  exact (JI.new hn h2 hD lw hi).sub fun j hj e => hj (by rw [e]; simp)
/-- The count: e joins more than those of the events. -/
def GSt (n : Nat) (D : List Int) (X : Nat → List Int) (w : List Int) (e : Nat) : Prop := ∃ g h S T, Core n D X w g h S T ∧ g + h + wgt n w + e ≤ w.length + 2
theorem negL_mem' {x : Int} : x ∈ negL w ↔ -x ∈ w := by
  unfold negL
  rw [List.mem_map]
  constructor
  · rintro ⟨y, hy, rfl⟩; rwa [Int.neg_neg]
  · intro h; exact ⟨-x, h, Int.neg_neg x⟩
theorem seen_neg {j : Nat} : seenI (negL w) j ↔ seenI w j := by
  unfold seenI
  rw [negL_mem', negL_mem', Int.neg_neg]
  exact Or.comm
theorem both_neg : bothB n (negL w) = bothB n w := by
  have key : ∀ u : List Int, bothB n u = true → bothB n (negL u) = true := fun u h => by
    obtain ⟨j, hj, h1, h2⟩ := bothB_iff.1 h
    exact bothB_iff.2 ⟨j, hj, negL_mem'.2 h2, negL_mem'.2 (by rwa [Int.neg_neg])⟩
  cases e : bothB n w
  · cases e2 : bothB n (negL w)
    · rfl
    · have := key _ e2
      rw [negL_negL, e] at this; cases this
  · exact key _ e
theorem wgt_neg : wgt n (negL w) = wgt n w := by
  unfold wgt seenN
  rw [both_neg]
  congr 1
  refine List.countP_congr fun j _ => ?_
  simp only [decide_eq_true_eq]
  exact seen_neg
theorem Core.flip {g h : Nat} {S T : List Int → Prop} (c : Core n D X w g h S T) : Core n D X (negL w) h g T S := by
  refine ⟨c.m, by rw [negL_negL]; exact c.p, c.xm.sub fun j hj k => hj (seen_neg.2 k), ?_, fun hb => ?_, fun hb => ?_⟩
  · rw [negL_negL]; exact c.xp.sub fun j hj k => hj (seen_neg.2 k)
  · exact (c.im (by rw [← both_neg]; exact hb)).sub fun j hj k => hj (negL_mem'.2 k)
  · rw [negL_negL]
    exact (c.ip (by rw [← both_neg]; exact hb)).sub fun j hj k => hj (negL_mem'.2 (by rwa [Int.neg_neg]))
theorem GSt.flip {e : Nat} (h : GSt n D X w e) : GSt n D X (negL w) e := by
  obtain ⟨g, h, S, T, c, k⟩ := h
  refine ⟨h, g, T, S, c.flip, ?_⟩
  rw [wgt_neg, negL_len]
  omega
theorem GSt.start (hn : n ≤ 1000) (hD : IsUp n D (hf n)) (hX : Blk1 n D X) : GSt n D X [] 0 := by
  have hb : wgt n [] = 0 := by
    unfold wgt
    have h1 : seenN n [] = 0 := List.countP_eq_zero.2 fun j _ => by simp [seenI]
    have h3 : bothB n [] = false := by
      cases e : bothB n []
      · rfl
      · obtain ⟨j, _, h, _⟩ := bothB_iff.1 e
        simp at h
    rw [h1, h3]; rfl
  refine ⟨1, 1, topN D [], topN D [], ⟨Gr.start hD, Gr.start hD, JX.start hX _ _, JX.start hX _ _, fun _ j _ hjn => und_top hn hD hjn, fun _ j _ hjn => und_top hn hD hjn⟩, by rw [hb]; exact Nat.le_refl _⟩
theorem GSt.pos (hn : n ≤ 1000) (h2 : 2 ≤ n) (hD : IsUp n D (hf n)) (hX : Blk1 n D X) {e : Nat} (lw : LtW n w) (h : GSt n D X w e) {i : Nat} (hi : i + 1 < n) : GSt n D X (w ++ [ltr i]) e := by
  obtain ⟨g, h, S, T, c, k⟩ := h
  have hl : (w ++ [ltr i]).length = w.length + 1 := by simp
  by_cases he : Evt n w i
  · obtain ⟨T', c'⟩ := c.join hn h2 hD hX lw hi (c.evt hX hi he)
    have := wgt_evt (n := n) (w := w) (i := i)
    exact ⟨g, h, S, T', c', by omega⟩
  · obtain ⟨T', c'⟩ := c.new hn h2 hD hX lw hi
    have := wgt_no he
    exact ⟨g + 1, h, _, T', c', by omega⟩
theorem GSt.one (hn : n ≤ 1000) (h2 : 2 ≤ n) (hD : IsUp n D (hf n)) (hX : Blk1 n D X) {e : Nat} (lw : LtW n w) (h : GSt n D X w e) {x : Int} (hx : LtB n x) : GSt n D X (w ++ [x]) e := by
  rcases Int.lt_or_lt_of_ne hx.1 with xn | xp
  · obtain ⟨i, hi, rfl⟩ := neg_of hx xn
    have := (h.flip.pos hn h2 hD hX (negL_lt lw) hi).flip
    rw [negL_append, negL_negL] at this
    exact this
  · obtain ⟨i, hi, rfl⟩ := pos_of hx xp
    exact h.pos hn h2 hD hX lw hi
theorem GSt.word (hn : n ≤ 1000) (h2 : 2 ≤ n) (hD : IsUp n D (hf n)) (hX : Blk1 n D X) {e : Nat} : ∀ (v w : List Int), LtW n w → LtW n v → GSt n D X w e → GSt n D X (w ++ v) e := by
  intro v
  induction v with
  | nil => intro w _ _ h; rwa [List.append_nil]
  | cons x v ih =>
    intro w lw lv h
    have hx := lv x (by simp)
    have := ih (w ++ [x]) (lw.app (lw1 hx)) (fun y hy => lv y (by simp [hy])) (h.one hn h2 hD hX lw hx)
    simpa using this
/-- Three letters i k i of neighbours: one join more. -/
theorem GSt.triple (hn : n ≤ 1000) (h2 : 2 ≤ n) (hD : IsUp n D (hf n)) (hX : Blk1 n D X) {e : Nat} (lw : LtW n w) (h : GSt n D X w e) {i j : Nat} (hi : i + 1 < n) (hj : j + 1 < n) (hij : i + 1 = j ∨ j + 1 = i) : GSt n D X (w ++ [ltr i, ltr j, ltr i]) (e + 1) := by
  obtain ⟨g, h, S, T, c, k⟩ := h
  have l1 : LtW n (w ++ [ltr i]) := lw.app (lw1 (lt_ltr hi))
  have l2 : LtW n (w ++ [ltr i] ++ [ltr j]) := l1.app (lw1 (lt_ltr hj))
  have ew : w ++ [ltr i, ltr j, ltr i] = w ++ [ltr i] ++ [ltr j] ++ [ltr i] := by simp
  have hl : (w ++ [ltr i, ltr j, ltr i]).length = w.length + 3 := by simp
  have hne : i ≠ j := by omega
  have no3 : ¬ Evt n (w ++ [ltr i] ++ [ltr j]) i := fun h3 => by
    rcases h3 with h3 | ⟨_, h3⟩
    · exact h3 (.inl (by simp))
    · exact h3 (by simp)
  have w3 := wgt_no no3
  have w1 := wgt_evt (n := n) (w := w) (i := i)
  have w2 := wgt_evt (n := n) (w := w ++ [ltr i]) (i := j)
  have lcm3 : ∀ {S : List Int → Prop} {z : List Int}, LtW n z → ∀ {i j : Nat}, i + 1 < n → j + 1 < n → (i + 1 = j ∨ j + 1 = i) → Und n S (z ++ [ltr i]) → Und n S (z ++ [ltr j]) → Und n S (z ++ [ltr i] ++ [ltr j] ++ [ltr i]) := by
    intro S z lz i j hi hj hij a b
    have := und_lcm hn h2 lz hi hj a b
    rw [lcm_near hij] at this
    simpa using this
  by_cases e1 : Evt n w i
  · have u1 := c.evt hX hi e1
    obtain ⟨T1, c1⟩ := c.join hn h2 hD hX lw hi u1
    by_cases e2 : Evt n (w ++ [ltr i]) j
    · have uj : Und n S (w ++ [ltr j]) := by
        rcases e2 with e2 | ⟨e2, e3⟩
        · exact c.xp.one hX (seen_mono e2).1 hj
        · exact c.ip (both_keep e2) j (fun h3 => e3 (List.mem_append_left _ h3)) hj
      have u3 := lcm3 lw hi hj hij u1 uj
      have u2 : Und n S (w ++ [ltr i] ++ [ltr j]) := und_two hn h2 lw hi hj hne u1 uj
      obtain ⟨T2, c2⟩ := c1.join hn h2 hD hX l1 hj u2
      obtain ⟨T3, c3⟩ := c2.join hn h2 hD hX l2 hi u3
      rw [ew] at hl ⊢
      exact ⟨g, h, S, T3, c3, by omega⟩
    · have w2' := wgt_no e2
      obtain ⟨T2, c2⟩ := c1.new hn h2 hD hX l1 hj
      have u3 : Und n (topN D (w ++ [ltr i])) (w ++ [ltr i] ++ [ltr j] ++ [ltr i]) := und_two hn h2 l1 hj hi (Ne.symm hne) (und_top hn hD hj) (und_top hn hD hi)
      obtain ⟨T3, c3⟩ := c2.join hn h2 hD hX l2 hi u3
      rw [ew] at hl ⊢
      exact ⟨g + 1, h, _, T3, c3, by omega⟩
  · have w1' := wgt_no e1
    obtain ⟨T1, c1⟩ := c.new hn h2 hD hX lw hi
    have u2 : Und n (topN D w) (w ++ [ltr i] ++ [ltr j]) := und_two hn h2 lw hi hj hne (und_top hn hD hi) (und_top hn hD hj)
    have u3 : Und n (topN D w) (w ++ [ltr i] ++ [ltr j] ++ [ltr i]) := lcm3 lw hi hj hij (und_top hn hD hi) (und_top hn hD hj)
    obtain ⟨T2, c2⟩ := c1.join hn h2 hD hX l1 hj u2
    obtain ⟨T3, c3⟩ := c2.join hn h2 hD hX l2 hi u3
    rw [ew] at hl ⊢
    exact ⟨g + 1, h, _, T3, c3, by omega⟩
end
end Go.Proofs.Ytnmklkjlcpgjmaa

namespace Go.Proofs.Ytnmklkjlcpgjmaa
open Go.RowKit Go.Sl

section
variable {n l r : Nat} {D A B : List Int} {X : List (List Int)}
structure MachC (n l r : Nat) (D A B : List Int) (X : List (List Int)) (V : List Int) (R : List LL) : Prop extends MachR n l r D A B X V R where
  front : ∀ R1 z k e q R2, R = R1 ++ (z, some (k, e, q)) :: R2 → 2 ≤ k → SFree 1 (fsts R1)
  cos : ∀ R1 z k e q R2, R = R1 ++ (z, some (k, e, q)) :: R2 → 2 ≤ k → Sam n 1 (V ++ fsts R1) (vy k e q)
  qin : ∀ R1 z k e q R2, R = R1 ++ (z, some (k, e, q)) :: R2 → InB n A B q
theorem MachC.shift {V : List Int} {y : LL} {R : List LL} (h : MachC n l r D A B X V (y :: R)) (hz : ¬ closeAt V y.1) : MachC n l r D A B X (V ++ [y.1]) R := by
  refine ⟨h.toMachR.shift hz, fun R1 z k ε q R2 er hk => ?_, fun R1 z k ε q R2 er hk => ?_, fun R1 z k ε q R2 er => h.qin (y :: R1) z k ε q R2 (by rw [er]; rfl)⟩
  · have := h.front (y :: R1) z k ε q R2 (by rw [er]; rfl) hk
    rw [fsts_cons] at this
    exact fun x hx => this x (by simp [hx])
  · have := h.cos (y :: R1) z k ε q R2 (by rw [er]; rfl) hk
    rw [fsts_cons] at this
    simpa using this
theorem MachC.del (hn : n ≤ 1000) (h2 : 2 ≤ n) (hD : IsUp n D (hf n)) (hA : LtW n A) (hX : Cover n A B X) {V : List Int} {y y' : LL} {R1 R2 : List LL} (h : MachC n l r D A B X V (R1 ++ y :: y' :: R2)) (hy : y'.1 = -y.1) : MachC n l r D A B X V (R1 ++ R2) := by
  have old : ∀ S1 z k ε q S2, R1 ++ R2 = S1 ++ (z, some (k, ε, q)) :: S2 → (∃ u, R1 ++ y :: y' :: R2 = S1 ++ (z, some (k, ε, q)) :: u) ∨ ∃ u, S1 = R1 ++ u ∧ R1 ++ y :: y' :: R2 = (R1 ++ y :: y' :: u) ++ (z, some (k, ε, q)) :: S2 := by
    intro S1 z k ε q S2 er
    rcases app_casesL er with ⟨u, a1, a2⟩ | ⟨u, a1, a2⟩
    · cases u with
      | nil =>
        rw [List.nil_append] at a2
        rw [List.append_nil] at a1
        exact .inr ⟨[], by rw [a1]; simp, by rw [← a2]; simp⟩
      | cons t u =>
        obtain ⟨rfl, a3⟩ := List.cons.inj a2
        exact .inl ⟨u ++ y :: y' :: R2, by rw [a1]; simp⟩
    · exact .inr ⟨u, a1, by rw [a2]; simp⟩
  have ly : LtB n y.1 := h.toMach.lt y.1 (by rw [fsts_append, fsts_cons]; simp)
  refine ⟨h.toMachR.del hn h2 hD hA hX hy, fun S1 z k ε q S2 er hk => ?_, fun S1 z k ε q S2 er hk => ?_, fun S1 z k ε q S2 er => ?_⟩
  · rcases old S1 z k ε q S2 er with ⟨u, hu⟩ | ⟨u, a1, a2⟩
    · exact h.front S1 z k ε q u hu hk
    · have := h.front _ z k ε q S2 a2 hk
      rw [a1]
      intro x hx
      refine this x ?_
      rw [fsts_append] at hx ⊢
      rw [fsts_cons, fsts_cons]
      rcases List.mem_append.1 hx with hx | hx
      · simp [hx]
      · simp [hx]
  · rcases old S1 z k ε q S2 er with ⟨u, hu⟩ | ⟨u, a1, a2⟩
    · exact h.cos S1 z k ε q u hu hk
    · have := h.cos _ z k ε q S2 a2 hk
      refine Sam.trans (Sam.of ?_) this
      rw [a1, fsts_append, fsts_append, fsts_cons, fsts_cons, hy]
      have := BE.ctx (V ++ fsts R1) (fsts u) (BE.cancel ly)
      simpa using this.symm
  · rcases old S1 z k ε q S2 er with ⟨u, hu⟩ | ⟨u, a1, a2⟩
    · exact h.qin S1 z k ε q u hu
    · exact h.qin _ z k ε q S2 a2
theorem MachC.red (hn : n ≤ 1000) (h2 : 2 ≤ n) (hD : IsUp n D (hf n)) (hA : LtW n A) (hX : Cover n A B X) {P M : List Int} {x : Int} {y : LL} {R : List LL} (h : MachC n l r D A B X (P ++ x :: M) (y :: R)) (hM : ∀ y ∈ M, x.natAbs < y.natAbs) (hy : y.1 = -x) :
    ∃ L, fsts L = midW x M ∧ MachC n l r D A B X P (L ++ R) ∧ muL n X (L ++ R) < muL n X (y :: R) := by
  obtain ⟨L, hL, hm, hmu, hLn⟩ := h.toMachR.red2 hn h2 hD hA hX hM hy
  have e1 : (P ++ x :: M) ++ fsts (y :: R) = P ++ (x :: M ++ (-x) :: fsts R) := by rw [fsts_cons, hy]; simp
  have hl := h.toMach.lt
  rw [e1] at hl
  have lx : LtB n x := hl x (by simp)
  have lM : LtW n M := fun z hz => hl z (by simp [hz])
  have lV : LtW n (P ++ x :: M) := h.toMach.lt.left
  have dV : DrF n A B [] (P ++ x :: M) := h.toMach.dr.left
  have hxs : -(x.sign * ((x.natAbs : Nat) : Int)) = -x := by rw [Int.sign_mul_natAbs]
  have vert : ∀ a b, M = a ++ b → LtW n (P ++ [x] ++ a) ∧ InB n A B (P ++ [x] ++ a) := fun a b e => by
    have e3 : P ++ x :: M = (P ++ [x] ++ a) ++ b := by rw [e]; simp
    exact ⟨by rw [e3] at lV; exact lV.left, by simpa using dV _ b e3⟩
  have vyp : ∀ a b, M = a ++ b → BE n (vy x.natAbs x.sign (repX n X (P ++ [x] ++ a))) (P ++ midW x a) := fun a b e => by
    obtain ⟨v1, v2⟩ := vert a b e
    have h3 := ((hX.rep v1 v2).2.symm).post [-x]
    have lM' : LtW n a := fun z hz => lM z (by rw [e]; simp [hz])
    have h4 := ((midW_eq lx lM' fun z hz => hM z (by rw [e]; simp [hz])).pre P).post [-x]
    have h5 := cancelAt (v := P ++ midW x a) lx
    unfold vy
    rw [hxs]
    refine h3.trans ?_
    have h6 : BE n (P ++ [x] ++ a ++ [-x]) (P ++ (midW x a ++ [x]) ++ [-x]) := by simpa using h4
    refine h6.trans ?_
    simpa using h5
  have midBig : 2 ≤ x.natAbs → ∀ z ∈ midW x M, 1 < z.natAbs := fun hx2 z hz => by
    have := (midW_idx lx.1 hM z hz).1
    omega
  have split : ∀ S1 z k ε q S2, L ++ R = S1 ++ (z, some (k, ε, q)) :: S2 → (∃ u, L = S1 ++ (z, some (k, ε, q)) :: u) ∨ ∃ u, S1 = L ++ u ∧ y :: R = (y :: u) ++ (z, some (k, ε, q)) :: S2 := by
    intro S1 z k ε q S2 er
    rcases app_casesL er with ⟨u, a1, a2⟩ | ⟨u, a1, a2⟩
    · cases u with
      | nil =>
        rw [List.nil_append] at a2
        rw [List.append_nil] at a1
        exact .inr ⟨[], by rw [a1]; simp, by rw [← a2]; rfl⟩
      | cons t u =>
        obtain ⟨rfl, a3⟩ := List.cons.inj a2
        exact .inl ⟨u, a1⟩
    · exact .inr ⟨u, a1, by rw [a2]; rfl⟩
  have oldx : ∀ z k ε q S2 u, y :: R = (y :: u) ++ (z, some (k, ε, q)) :: S2 → 2 ≤ k → 2 ≤ x.natAbs ∧ SFree 1 (fsts u) := fun z k ε q S2 u er hk => by
    have := h.front _ z k ε q S2 er hk
    rw [fsts_cons, hy] at this
    have h3 := this (-x) (by simp)
    rw [Int.natAbs_neg] at h3
    exact ⟨h3, fun t ht => this t (by simp [ht])⟩
  refine ⟨L, hL, ⟨hm, fun S1 z k ε q S2 er hk => ?_, fun S1 z k ε q S2 er hk => ?_, fun S1 z k ε q S2 er => ?_⟩, hmu⟩
  · rcases split S1 z k ε q S2 er with ⟨u, hu⟩ | ⟨u, a1, a2⟩
    · obtain ⟨M1, y', M2, b1, b2, e2, e3, e4, e5⟩ := newL_split M (P ++ [x]) S1 _ u (hLn.symm.trans hu)
      simp only [Option.some.injEq, Prod.mk.injEq] at e5
      obtain ⟨rfl, rfl, rfl⟩ := e5
      intro t ht
      refine midBig hk t ?_
      rw [← hL, hu, fsts_append]
      simp [ht]
    · obtain ⟨h3, h4⟩ := oldx z k ε q S2 u a2 hk
      rw [a1, fsts_append, hL]
      intro t ht
      rcases List.mem_append.1 ht with ht | ht
      · exact midBig h3 t ht
      · exact h4 t ht
  · rcases split S1 z k ε q S2 er with ⟨u, hu⟩ | ⟨u, a1, a2⟩
    · obtain ⟨M1, y', M2, b1, b2, e2, e3, e4, e5⟩ := newL_split M (P ++ [x]) S1 _ u (hLn.symm.trans hu)
      simp only [Option.some.injEq, Prod.mk.injEq] at e5
      obtain ⟨rfl, rfl, rfl⟩ := e5
      have hv := vyp (M1 ++ [y']) M2 (by rw [e2]; simp)
      rw [← List.append_assoc] at hv
      have e6 : P ++ midW x (M1 ++ [y']) = (P ++ fsts S1) ++ (z :: b2) := by
        rw [e4, midW_append, midW_cons, e3]
        simp [midW]
      rw [e6] at hv
      have hsub : ∀ t ∈ z :: b2, t ∈ midW x M := fun t ht => by
        rw [e2, midW_append, midW_cons, e3]
        rcases List.mem_cons.1 ht with rfl | ht
        · simp
        · simp [ht]
      exact ⟨z :: b2, fun t ht => midBig hk t (hsub t ht), fun t ht => midW_lt lx lM t (hsub t ht), hv.symm⟩
    · have hc := h.cos _ z k ε q S2 a2 hk
      refine Sam.trans (Sam.of ?_) hc
      rw [a1, fsts_append, hL, fsts_cons, hy]
      have := BE.ctx P (fsts u) (handle_eq lx lM hM).symm
      simpa using this
  · rcases split S1 z k ε q S2 er with ⟨u, hu⟩ | ⟨u, a1, a2⟩
    · obtain ⟨M1, y', M2, b1, b2, e2, e3, e4, e5⟩ := newL_split M (P ++ [x]) S1 _ u (hLn.symm.trans hu)
      simp only [Option.some.injEq, Prod.mk.injEq] at e5
      obtain ⟨rfl, rfl, rfl⟩ := e5
      have e7 : M = (M1 ++ [y']) ++ M2 := by rw [e2]; simp
      obtain ⟨v1, v2⟩ := vert _ _ e7
      rw [← List.append_assoc] at v1 v2
      exact v2.congr (hX.rep v1 v2).2
    · exact h.qin _ z k ε q S2 a2
end
end Go.Proofs.Ytnmklkjlcpgjmaa

namespace Go.Proofs.Ytnmklkjlcpgjmaa
open Go.RowKit Go.Sl

section
variable {n l r : Nat} {D A B : List Int} {X : List (List Int)}
/-- A word on the way: the measure is at most m. -/
def OnWayC (n l r : Nat) (D A B : List Int) (X : List (List Int)) (w : List Int) (m : Nat) : Prop := ∃ V R, V ++ fsts R = w ∧ MachC n l r D A B X V R ∧ muL n X R ≤ m
theorem OnWayC.lt {w : List Int} {m : Nat} (h : OnWayC n l r D A B X w m) : LtW n w := by
  obtain ⟨V, R, rfl, hm, _⟩ := h
  exact hm.toMach.lt
/-- A pair that cancels. -/
theorem OnWayC.del (hn : n ≤ 1000) (h2 : 2 ≤ n) (hD : IsUp n D (hf n)) (hA : LtW n A) (hX : Cover n A B X) {a b : List Int} {x : Int} {m : Nat} (h : OnWayC n l r D A B X (a ++ x :: (-x) :: b) m) : OnWayC n l r D A B X (a ++ b) m := by
  obtain ⟨V, R, e, hm, hmu⟩ := h
  rcases app_cases e with ⟨u, e1, e2⟩ | ⟨u, e1, e2⟩
  · -- V = a ++ u
    rcases u with _ | ⟨t, _ | ⟨t', u⟩⟩
    · rw [List.append_nil] at e1
      rw [List.nil_append] at e2
      obtain ⟨y, R2, rfl, hy, e3⟩ := fsts_cons_split e2.symm
      obtain ⟨y', R3, rfl, hy', e4⟩ := fsts_cons_split e3
      have h3 := MachC.del hn h2 hD hA hX (R1 := []) hm (by rw [hy', hy])
      have h4 := mu_del (n := n) (X := X) y y' [] R3
      exact ⟨V, R3, by rw [e1, e4], h3, by simp only [List.nil_append] at h4; omega⟩
    · rw [List.cons_append, List.nil_append] at e2
      obtain ⟨rfl, e3⟩ := List.cons.inj e2
      obtain ⟨y, R2, rfl, hy, e4⟩ := fsts_cons_split e3.symm
      rw [e1] at hm
      obtain ⟨L, hL, h3, h4⟩ := MachC.red hn h2 hD hA hX (M := []) hm (fun z hz => by simp at hz) hy
      have : L = [] := by
        cases L with
        | nil => rfl
        | cons _ _ => simp [fsts, midW] at hL
      subst this
      exact ⟨a, R2, by rw [e4], by simpa using h3, by simp only [List.nil_append] at h4; omega⟩
    · exfalso
      rw [List.cons_append, List.cons_append] at e2
      obtain ⟨rfl, e3⟩ := List.cons.inj e2
      obtain ⟨rfl, e4⟩ := List.cons.inj e3
      refine hm.cl (a ++ [x]) (-x) u (by rw [e1]; simp) ⟨a, [], by rw [Int.neg_neg], fun z hz => by simp at hz⟩
  · -- a = V ++ u
    obtain ⟨R1, R2, rfl, e3, e4⟩ := fsts_split e2
    obtain ⟨y, R3, rfl, hy, e5⟩ := fsts_cons_split e4
    obtain ⟨y', R4, rfl, hy', e6⟩ := fsts_cons_split e5
    have h3 := MachC.del hn h2 hD hA hX hm (by rw [hy', hy])
    have h4 := mu_del (n := n) (X := X) y y' R1 R4
    exact ⟨V, R1 ++ R4, by rw [fsts_append, e3, e6, e1]; simp, h3, by omega⟩
/-- The reduced word. -/
theorem OnWayC.redL (hn : n ≤ 1000) (h2 : 2 ≤ n) (hD : IsUp n D (hf n)) (hA : LtW n A) (hX : Cover n A B X) {w : List Int} {m : Nat} (h : OnWayC n l r D A B X w m) : OnWayC n l r D A B X (redL w) m := by
  have key : ∀ (b s : List Int), OnWayC n l r D A B X (s.reverse ++ b) m → OnWayC n l r D A B X ((act s b).reverse) m := by
    intro b
    induction b with
    | nil => intro s h; simpa [act] using h
    | cons x b ih =>
      intro s h
      show OnWayC n l r D A B X ((act (psh s x) b).reverse) m
      refine ih _ ?_
      cases s with
      | nil => simpa [psh] using h
      | cons y t =>
        have ep : psh (y :: t) x = if y = -x then t else x :: y :: t := rfl
        rw [ep]
        by_cases hy : y = -x
        · rw [if_pos hy]
          subst hy
          have e : (-x :: t).reverse ++ x :: b = t.reverse ++ (-x) :: (- -x) :: b := by simp
          rw [e] at h
          exact h.del hn h2 hD hA hX
        · rw [if_neg hy]
          simpa using h
  have := key w [] (by simpa using h)
  exact this
/-- A handle. -/
theorem OnWayC.handle (hn : n ≤ 1000) (h2 : 2 ≤ n) (hD : IsUp n D (hf n)) (hA : LtW n A) (hX : Cover n A B X) {P M s : List Int} {x : Int} {m : Nat} (h : OnWayC n l r D A B X (P ++ x :: M ++ (-x) :: s) m) (hc : Clean (P ++ x :: M)) (hM : ∀ y ∈ M, x.natAbs < y.natAbs) : 0 < m ∧ OnWayC n l r D A B X (P ++ (midW x M ++ s)) (m - 1) := by
  obtain ⟨V, R, e, hm, hmu⟩ := h
  have cl : closeAt (P ++ x :: M) (-x) := ⟨P, M, by rw [Int.neg_neg], fun y hy => by rw [Int.natAbs_neg]; exact hM y hy⟩
  -- V is a part of P ++ x :: M
  have hpre : ∃ u, P ++ x :: M = V ++ u ∧ fsts R = u ++ (-x) :: s := by
    rcases app_cases e with ⟨u, e1, e2⟩ | ⟨u, e1, e2⟩
    · cases u with
      | nil => exact ⟨[], by rw [e1]; simp, by rw [List.nil_append] at e2 ⊢; exact e2.symm⟩
      | cons t u =>
        exfalso
        rw [List.cons_append] at e2
        obtain ⟨rfl, _⟩ := List.cons.inj e2
        exact hm.cl _ _ _ e1 cl
    · exact ⟨u, e1, e2⟩
  obtain ⟨u, e1, e2⟩ := hpre
  -- the letters ahead are passed
  have pass : ∀ (u V : List Int) (R : List LL), MachC n l r D A B X V R → P ++ x :: M = V ++ u → fsts R = u ++ (-x) :: s → ∃ R', MachC n l r D A B X (P ++ x :: M) R' ∧ fsts R' = (-x) :: s ∧ muL n X R' ≤ muL n X R := by
    intro u
    induction u with
    | nil =>
      intro V R hm e1 e2
      rw [List.append_nil] at e1
      exact ⟨R, by rw [e1]; exact hm, e2, Nat.le_refl _⟩
    | cons t u ih =>
      intro V R hm e1 e2
      obtain ⟨y, R2, rfl, hy, e3⟩ := fsts_cons_split e2
      have hno : ¬ closeAt V y.1 := by
        rw [hy]
        exact hc V t u e1
      have h3 := hm.shift hno
      rw [hy] at h3
      obtain ⟨R', h4, h5, h6⟩ := ih (V ++ [t]) R2 h3 (by rw [e1]; simp) e3
      have := mu_shift (n := n) (X := X) y R2
      exact ⟨R', h4, h5, by omega⟩
  obtain ⟨R', h3, h4, h5⟩ := pass u V R hm e1 e2
  obtain ⟨y, R2, rfl, hy, e3⟩ := fsts_cons_split h4
  obtain ⟨L, hL, h6, h7⟩ := MachC.red hn h2 hD hA hX h3 hM hy
  exact ⟨by omega, P, L ++ R2, by rw [fsts_append, hL, e3], h6, by omega⟩
/-- The start. -/
theorem OnWayC.start (_hD : IsUp n D (hf n)) {w : List Int} (hw : LtW n w) (hd : DrF n A B [] w) (hl : w.length ≤ l) (hr : Rho n r D w) : ∃ m, OnWayC n l r D A B X w m := by
  obtain ⟨R, hR⟩ : ∃ R : List LL, R = w.map fun z => (z, none) := ⟨_, rfl⟩
  have hf : fsts R = w := by rw [hR]; simp [fsts, Function.comp_def]
  have hno : ∀ R1 z k e q R2, R = R1 ++ (z, some (k, e, q)) :: R2 → False := fun R1 z k e q R2 er => by
    have : (z, some (k, e, q)) ∈ R := by rw [er]; simp
    rw [hR] at this
    obtain ⟨t, _, ht⟩ := List.mem_map.1 this
    simp at ht
  have h0 : R.filterMap vv = [] := by
    rw [hR, List.filterMap_map]
    exact List.filterMap_eq_nil_iff.2 fun z _ => rfl
  refine ⟨_, [], R, by rw [hf]; rfl, ⟨⟨⟨by rw [hf]; exact hw, by rw [hf]; exact hd, clean_nil, fun R1 z k e q R2 er => (hno R1 z k e q R2 er).elim, fun k q => ?_, ?_⟩, by rw [hf]; exact hr, fun R1 z k e q R2 er => (hno R1 z k e q R2 er).elim, by rw [h0]; exact List.Pairwise.nil, fun R1 z k e q R2 er => (hno R1 z k e q R2 er).elim⟩, fun R1 z k e q R2 er => (hno R1 z k e q R2 er).elim, fun R1 z k e q R2 er => (hno R1 z k e q R2 er).elim, fun R1 z k e q R2 er => (hno R1 z k e q R2 er).elim⟩, Nat.le_refl _⟩
  · have : R.countP (isLab k q) = 0 := List.countP_eq_zero.2 fun t ht hs => by
      rw [hR] at ht
      obtain ⟨z, _, rfl⟩ := List.mem_map.1 ht
      simp [isLab] at hs
    omega
  · have := List.countP_le_length (p := fun y : LL => y.2.isNone) (l := R)
    rw [hR, List.length_map] at this
    rw [hR]; omega


/-- At most c vertices of the interval in one coset; at most m in all. -/
def FewC (n : Nat) (A B : List Int) (c : Nat) : Prop := ∀ (V : List Int) (Z : List (List Int)), (∀ z ∈ Z, LtW n z ∧ InB n A B z ∧ Sam n 1 V z) → Z.Pairwise (fun a b => ¬ BE n a b) → Z.length ≤ c
def FewX (n : Nat) (A B : List Int) (m : Nat) : Prop := ∀ (Z : List (List Int)), (∀ z ∈ Z, LtW n z ∧ InB n A B z) → Z.Pairwise (fun a b => ¬ BE n a b) → Z.length ≤ m
theorem MachC.facts (hX : Cover n A B X) {V : List Int} {R : List LL} (h : MachC n l r D A B X V R) {y : LL} (hy : y ∈ R) {k : Nat} {e : Int} {q : List Int} (h2 : y.2 = some (k, e, q)) : LtW n (vy k e q) ∧ InB n A B (vy k e q) ∧ repX n X q = q ∧ LtW n [-(e * (k : Int))] ∧ LtW n q ∧ InB n A B q ∧ (2 ≤ k → Sam n 1 V (vy k e q)) := by
  obtain ⟨R1, R2, er⟩ := List.append_of_mem hy
  have er2 : R = R1 ++ (y.1, some (k, e, q)) :: R2 := by rw [er, ← h2]
  obtain ⟨i1, i2⟩ := h.inb _ _ _ _ _ _ er2
  have l := h.toMachR.ltv hX er2
  refine ⟨l, i1, i2, l.right, l.left, h.qin _ _ _ _ _ _ er2, fun hk => ?_⟩
  have f := h.front _ _ _ _ _ _ er2 hk
  have c := h.cos _ _ _ _ _ _ er2 hk
  have lV : LtW n (fsts R1) := by
    have := h.toMach.lt
    rw [er2, fsts_append, ← List.append_assoc] at this
    exact this.left.right
  exact Sam.trans ⟨fsts R1, f, lV, .refl _⟩ c
/-- Labels of index 2 and above. -/
theorem MachC.labels2 (hX : Cover n A B X) {c : Nat} (hC : FewC n A B c) {V : List Int} {R : List LL} (h : MachC n l r D A B X V R) (k : Nat) (hk : 2 ≤ k) (e : Int) : R.countP (isKE k e) ≤ 3 * c := by
  obtain ⟨R', hR'⟩ : ∃ R', R' = R.filter (isKE k e) := ⟨_, rfl⟩
  have hsub : List.Sublist R' R := by rw [hR']; exact List.filter_sublist
  have hmem : ∀ y ∈ R', ∃ q, y.2 = some (k, e, q) := fun y hy => by
    rw [hR'] at hy
    exact isKE_iff.1 (List.mem_filter.1 hy).2
  obtain ⟨S, hS, hd, hl⟩ := dedup labQ R'.length R' (Nat.le_refl _) fun b => by
    refine Nat.le_trans ?_ (h.ct k b)
    refine Nat.le_trans (List.countP_mono_left (p := fun a => decide (labQ a = b)) (q := isLab k b) fun y hy hq => ?_) hsub.countP_le
    obtain ⟨q, hq2⟩ := hmem y hy
    rw [decide_eq_true_eq] at hq
    have hq3 : q = b := by simpa [labQ, hq2] using hq
    exact isLab_iff.2 ⟨e, by rw [hq2, hq3]⟩
  rw [List.countP_eq_length_filter, ← hR']
  refine Nat.le_trans hl (Nat.mul_le_mul_left 3 ?_)
  have hSm : ∀ y ∈ S, y.2 = some (k, e, labQ y) := fun y hy => by
    obtain ⟨q, hq⟩ := hmem y (hS.subset hy)
    unfold labQ
    rw [hq]
  have facts := fun y (hy : y ∈ S) => h.facts hX (hsub.subset (hS.subset hy)) (hSm y hy)
  have := hC V (S.map fun y => vy k e (labQ y)) (fun z hz => ?_) ?_
  · simpa using this
  · obtain ⟨y, hy, rfl⟩ := List.mem_map.1 hz
    obtain ⟨a, b, _, _, _, _, d⟩ := facts y hy
    exact ⟨a, b, d hk⟩
  · refine List.pairwise_map.2 (List.Pairwise.imp_of_mem (fun {a b} ha hb hab hbe => hab ?_) hd)
    obtain ⟨_, _, ra, la, _⟩ := facts a ha
    obtain ⟨_, _, rb, _⟩ := facts b hb
    have h3 : BE n (labQ a) (labQ b) := hbe.cancelR la
    rw [← ra, ← rb]
    exact repX_congr h3
def isK1 (y : LL) : Bool := match y.2 with
  | some (k', _, _) => decide (k' = 1)
  | none => false
theorem isK1_iff {y : LL} : isK1 y = true ↔ ∃ e q, y.2 = some (1, e, q) := by
  unfold isK1
  rcases y with ⟨z, _ | ⟨k', e', q⟩⟩
  · simp
  · simp only [decide_eq_true_eq, Option.some.injEq, Prod.mk.injEq]
    exact ⟨fun h1 => ⟨e', q, h1, rfl, rfl⟩, fun ⟨_, _, h1, _⟩ => h1⟩
/-- Labels of index 1, by all vertices. -/
theorem MachC.labels1 (hX : Cover n A B X) {m : Nat} (hM : FewX n A B m) {V : List Int} {R : List LL} (h : MachC n l r D A B X V R) : R.countP isK1 ≤ 3 * m := by
  obtain ⟨R', hR'⟩ : ∃ R', R' = R.filter isK1 := ⟨_, rfl⟩
  have hsub : List.Sublist R' R := by rw [hR']; exact List.filter_sublist
  have hmem : ∀ y ∈ R', ∃ e q, y.2 = some (1, e, q) := fun y hy => by
    rw [hR'] at hy
    exact isK1_iff.1 (List.mem_filter.1 hy).2
  obtain ⟨S, hS, hd, hl⟩ := dedup labQ R'.length R' (Nat.le_refl _) fun b => by
    refine Nat.le_trans ?_ (h.ct 1 b)
    refine Nat.le_trans (List.countP_mono_left (p := fun a => decide (labQ a = b)) (q := isLab 1 b) fun y hy hq => ?_) hsub.countP_le
    obtain ⟨e, q, hq2⟩ := hmem y hy
    rw [decide_eq_true_eq] at hq
    have hq3 : q = b := by simpa [labQ, hq2] using hq
    exact isLab_iff.2 ⟨e, by rw [hq2, hq3]⟩
  rw [List.countP_eq_length_filter, ← hR']
  refine Nat.le_trans hl (Nat.mul_le_mul_left 3 ?_)
  have facts : ∀ y ∈ S, repX n X (labQ y) = labQ y ∧ LtW n (labQ y) ∧ InB n A B (labQ y) := fun y hy => by
    obtain ⟨e, q, hq⟩ := hmem y (hS.subset hy)
    obtain ⟨_, _, a, _, b, c, _⟩ := h.facts hX (hsub.subset (hS.subset hy)) hq
    have : labQ y = q := by unfold labQ; rw [hq]
    rw [this]
    exact ⟨a, b, c⟩
  have := hM (S.map labQ) (fun z hz => ?_) ?_
  · simpa using this
  · obtain ⟨y, hy, rfl⟩ := List.mem_map.1 hz
    exact ⟨(facts y hy).2.1, (facts y hy).2.2⟩
  · refine List.pairwise_map.2 (List.Pairwise.imp_of_mem (fun {a b} ha hb hab hbe => hab ?_) hd)
    rw [← (facts a ha).1, ← (facts b hb).1]
    exact repX_congr hbe
theorem k1_two (R : List LL) : (∀ y ∈ R, ∀ k e q, y.2 = some (k, e, q) → e = 1 ∨ e = -1) → R.countP isK1 ≤ R.countP (isKE 1 1) + R.countP (isKE 1 (-1)) := by
  induction R with
  | nil => intro _; simp
  | cons y R ih =>
    intro h
    have h1 := ih fun z hz => h z (by simp [hz])
    rw [List.countP_cons, List.countP_cons, List.countP_cons]
    by_cases hk : isK1 y = true
    · obtain ⟨e, q, hq⟩ := isK1_iff.1 hk
      rcases h y (by simp) 1 e q hq with rfl | rfl
      · rw [if_pos hk, if_pos (isKE_iff.2 ⟨q, hq⟩)]; omega
      · rw [if_pos hk, if_pos (show isKE 1 (-1) y = true from isKE_iff.2 ⟨q, hq⟩)]; omega
    · rw [if_neg hk]; omega
/-- No word on the way is long. -/
theorem MachC.len (h3 : 3 ≤ n) (hX : Cover n A B X) {M c b : Nat} (hF : Few n r D A B M) (hC : FewC n A B c) {V : List Int} {R : List LL} (h : MachC n l r D A B X V R) (hb : R.countP isK1 ≤ 3 * b) : (V ++ fsts R).length ≤ M + (l + (3 * b + (n - 3) * 2 * (3 * c))) := by
  have h1 := clean_few hF h.cl h.toMach.lt.left h.toMach.dr.left h.rho.left
  have h2 : R.countP (fun y => y.2.isSome) ≤ 3 * b + (n - 3) * 2 * (3 * c) := by
    obtain ⟨P, hP⟩ : ∃ P : List (Nat × Int), P = (List.range' 2 (n - 3)).flatMap fun k => [(k, 1), (k, -1)] := ⟨_, rfl⟩
    have h3 := count_cover (R := R) (P := none :: P.map some) (fun p => match p with | none => isK1 | some p => isKE p.1 p.2) fun y hy hs => by
      obtain ⟨R1, R2, e⟩ := List.append_of_mem hy
      rcases y with ⟨z, _ | ⟨k, e', q⟩⟩
      · simp at hs
      · obtain ⟨⟨he, hq, hk, hkn⟩, _⟩ := h.js R1 z k e' q R2 e
        by_cases hk1 : k = 1
        · subst hk1
          exact ⟨none, by simp, isK1_iff.2 ⟨e', q, rfl⟩⟩
        · refine ⟨some (k, e'), ?_, isKE_iff.2 ⟨q, rfl⟩⟩
          refine List.mem_cons_of_mem _ (List.mem_map.2 ⟨(k, e'), ?_, rfl⟩)
          rw [hP]
          refine List.mem_flatMap.2 ⟨k, List.mem_range'_1.2 ⟨by omega, by omega⟩, ?_⟩
          rcases he with rfl | rfl <;> simp
    rw [List.map_cons, List.sum_cons, List.map_map] at h3
    have hge : ∀ p ∈ P, 2 ≤ p.1 := fun p hp => by
      rw [hP] at hp
      obtain ⟨k, hk, hp⟩ := List.mem_flatMap.1 hp
      have := (List.mem_range'_1.1 hk).1
      simp only [List.mem_cons, List.not_mem_nil, or_false] at hp
      rcases hp with rfl | rfl <;> exact this
    have h4 : (P.map fun p => R.countP (isKE p.1 p.2)).sum ≤ P.length * (3 * c) := by
      clear h3 hP
      induction P with
      | nil => simp
      | cons p P ih =>
        have a := h.labels2 hX hC p.1 (hge p (by simp)) p.2
        have b := ih fun q hq => hge q (by simp [hq])
        rw [List.map_cons, List.sum_cons, List.length_cons, Nat.succ_mul]
        omega
    have h5 : P.length = (n - 3) * 2 := by
      rw [hP]
      have : ∀ (L : List Nat), (L.flatMap fun k => [(k, (1 : Int)), (k, -1)]).length = L.length * 2 := by
        intro L
        induction L with
        | nil => simp
        | cons a L ih => rw [List.flatMap_cons, List.length_append, ih, List.length_cons]; simp; omega
      rw [this, List.length_range']
    rw [h5] at h4
    have h6 : (P.map ((fun p => R.countP (match p with | none => isK1 | some p => isKE p.1 p.2)) ∘ some)).sum = (P.map fun p => R.countP (isKE p.1 p.2)).sum := rfl
    rw [h6] at h3
    have h7 : R.countP (match (none : Option (Nat × Int)) with | none => isK1 | some p => isKE p.1 p.2) = R.countP isK1 := rfl
    omega
  have h6 : R.length = R.countP (fun y => y.2.isNone) + R.countP (fun y => y.2.isSome) := by
    clear h h1 h2 hb
    induction R with
    | nil => rfl
    | cons y R ih =>
      rw [List.length_cons, List.countP_cons, List.countP_cons, ih]
      rcases y with ⟨z, _ | L⟩ <;> simp <;> omega
  have h7 := h.nn
  rw [List.length_append, show (fsts R).length = R.length by simp [fsts]]
  omega
theorem OnWayC.len (h3 : 3 ≤ n) (hX : Cover n A B X) {M c : Nat} (hF : Few n r D A B M) (hC : FewC n A B c) {w : List Int} {m : Nat} (h : OnWayC n l r D A B X w m) : w.length ≤ M + (l + (3 * (2 * M) + (n - 3) * 2 * (3 * c))) := by
  obtain ⟨V, R, rfl, hm, _⟩ := h
  refine hm.len h3 hX hF hC ?_
  have h1 := hm.toMachR.labels hX hF 1 1
  have h2 := hm.toMachR.labels hX hF 1 (-1)
  have := k1_two R fun y hy k e q hq => by
    obtain ⟨R1, R2, er⟩ := List.append_of_mem hy
    exact (hm.js R1 y.1 k e q R2 (by rw [er, ← hq])).1.1
  omega
theorem OnWayC.lenX (h3 : 3 ≤ n) (hX : Cover n A B X) {M c b : Nat} (hF : Few n r D A B M) (hC : FewC n A B c) (hM : FewX n A B b) {w : List Int} {m : Nat} (h : OnWayC n l r D A B X w m) : w.length ≤ M + (l + (3 * b + (n - 3) * 2 * (3 * c))) := by
  obtain ⟨V, R, rfl, hm, _⟩ := h
  exact hm.len h3 hX hF hC (hm.labels1 hX hM)
end
end Go.Proofs.Ytnmklkjlcpgjmaa

namespace Go.Proofs.Ytnmklkjlcpgjmaa
open Go.RowKit Go.Sl

section
variable {n r : Nat} {D A B : List Int}
/-- At most g vertices between Q and Q shifted that are not above a letter. -/
def SpanNot (n r : Nat) (D : List Int) (g : Nat) : Prop := ∀ Q, LtW n Q → ∀ i, i + 1 < n → ∀ Z : List (List Int), (∀ z ∈ Z, LtW n z ∧ LeB n Q z ∧ LeB n z (Q ++ powB (r : Int) D) ∧ ¬ LeB n (Q ++ [ltr i]) z) → Z.Pairwise (fun a b => ¬ BE n a b) → Z.length ≤ g
open Classical in
noncomputable def cntA (n : Nat) (Q : List Int) (Z : List (List Int)) : Nat := Z.countP fun z => decide (LeB n Q z)
open Classical in
theorem cntA_step (_hn : n ≤ 1000) (_hD : IsUp n D (hf n)) {g : Nat} (hg : SpanNot n r D g) {Q : List Int} (lQ : LtW n Q) {i : Nat} (hi : i + 1 < n) {Z : List (List Int)} (hZ : ∀ z ∈ Z, LtW n z ∧ LeB n z (Q ++ powB (r : Int) D)) (hd : Z.Pairwise fun a b => ¬ BE n a b) : cntA n Q Z ≤ cntA n (Q ++ [ltr i]) Z + g := by
  obtain ⟨F, hF⟩ : ∃ F, F = Z.filter fun z => decide (LeB n Q z ∧ ¬ LeB n (Q ++ [ltr i]) z) := ⟨_, rfl⟩
  have hsub : List.Sublist F Z := by rw [hF]; exact List.filter_sublist
  have h1 := hg Q lQ i hi F (fun z hz => by
    have h3 := hZ z (hsub.subset hz)
    rw [hF] at hz
    have h4 := (List.mem_filter.1 hz).2
    rw [decide_eq_true_eq] at h4
    exact ⟨h3.1, h4.1, h3.2, h4.2⟩) (hd.sublist hsub)
  rw [hF, ← List.countP_eq_length_filter] at h1
  have h2 : cntA n Q Z ≤ cntA n (Q ++ [ltr i]) Z + Z.countP fun z => decide (LeB n Q z ∧ ¬ LeB n (Q ++ [ltr i]) z) := by
    clear h1 hZ hd hsub hF F
    unfold cntA
    induction Z with
    | nil => simp
    | cons z Z ih =>
      rw [List.countP_cons, List.countP_cons, List.countP_cons]
      by_cases a : LeB n Q z
      · by_cases b : LeB n (Q ++ [ltr i]) z
        · simp only [a, b, decide_true, not_true_eq_false, and_false, decide_false, if_true, Bool.false_eq_true, if_false]
          omega
        · simp only [a, b, decide_true, not_false_eq_true, and_self, decide_false, if_true, Bool.false_eq_true, if_false]
          omega
      · simp only [a, decide_false, false_and, Bool.false_eq_true, if_false]
        omega
  omega
theorem cntA_word (hn : n ≤ 1000) (hD : IsUp n D (hf n)) {g : Nat} (hg : SpanNot n r D g) {Z : List (List Int)} (hd : Z.Pairwise fun a b => ¬ BE n a b) (lZ : ∀ z ∈ Z, LtW n z) : ∀ (t Q : List Int), LtW n Q → PosW n t → (∀ z ∈ Z, LeB n z (Q ++ powB (r : Int) D)) → cntA n Q Z ≤ cntA n (Q ++ t) Z + t.length * g := by
  intro t
  induction t with
  | nil => intro Q _ _ _; rw [List.append_nil]; simp
  | cons x t ih =>
    intro Q lQ ht hZ
    obtain ⟨i, hi, rfl⟩ := ltr_of ht.hd
    have h1 := cntA_step hn hD hg lQ hi (fun z hz => ⟨lZ z hz, hZ z hz⟩) hd
    have h2 := ih (Q ++ [ltr i]) (lQ.app (PosW.one (pos_ltr hi)).lt) ht.tl fun z hz => (hZ z hz).trans (k_mono hn hD (le_up hi))
    have e : (Q ++ [ltr i]) ++ t = Q ++ ltr i :: t := by simp
    rw [e] at h2
    rw [List.length_cons, Nat.succ_mul]
    omega
theorem cntA_congr {Q Q' : List Int} (h : BE n Q Q') (Z : List (List Int)) : cntA n Q Z = cntA n Q' Z := by
  classical
  unfold cntA
  refine List.countP_congr fun z _ => ?_
  simp only [decide_eq_true_eq]
  exact ⟨fun k => k.congr h (.refl _), fun k => k.congr h.symm (.refl _)⟩
theorem few_chain2 (hn : n ≤ 1000) (h2 : 2 ≤ n) (hD : IsUp n D (hf n)) (hA : LtW n A) {g : Nat} (hg : SpanNot n r D g) : ∀ (m : Nat) (Q : List Int) (Z : List (List Int)), LtW n Q → LeB n A Q → exB Q - exB A ≤ m → (∀ z ∈ Z, LtW n z ∧ LeB n A z ∧ LeB n z (Q ++ powB (r : Int) D)) → Z.Pairwise (fun a b => ¬ BE n a b) → Z.Pairwise (fun a b => LeB n b (a ++ powB (r : Int) D)) → Z.length ≤ cntA n Q Z + m * (g + 1) := by
  classical
  intro m
  induction m using Nat.strongRecOn with
  | _ m ih =>
    intro Q Z lQ hQ he hZ hd hp
    rcases first_not (fun z => LeB n Q z) Z with h | ⟨Z1, z, Z2, rfl, h1, h3⟩
    · have : cntA n Q Z = Z.length := by
        unfold cntA
        rw [List.countP_eq_length]
        exact fun z hz => decide_eq_true (h z hz)
      omega
    · have hz := hZ z (by simp)
      obtain ⟨G, lG, gA, gQ, gz, gr⟩ := gcd_exists hn h2 hD hA hQ hz.2.1
      have hlt : exB G < exB Q := by
        have h4 := gQ.exLe
        rcases Int.lt_or_eq_of_le h4 with h5 | h5
        · exact h5
        · exact absurd (gz.congr (le_eq gQ h5) (.refl _)) h3
      have d1 := List.pairwise_append.1 hd
      have p1 := List.pairwise_append.1 hp
      have hGA := gA.exLe
      have hb : ∀ b ∈ Z2, LtW n b ∧ LeB n A b ∧ LeB n b (G ++ powB (r : Int) D) := fun b hb => by
        have hb3 := hZ b (by simp [hb])
        refine ⟨hb3.1, hb3.2.1, ?_⟩
        have k1 := (List.pairwise_cons.1 p1.2.1).1 b hb
        exact le_unshift hn hD (gr _ (hb3.1.app (powB_lt hD.lt _)) (le_shift hn hD hb3.2.2) (le_shift hn hD k1))
      have d2 := (List.pairwise_cons.1 d1.2.1).2
      have h5 := ih (exB G - exB A).toNat (by omega) G Z2 lG gA (by omega) hb d2 (List.pairwise_cons.1 p1.2.1).2
      obtain ⟨t, ht, ht2⟩ := gQ
      have h6 := cntA_word hn hD hg d2 (fun b hb2 => (hb b hb2).1) t G lG ht fun b hb2 => (hb b hb2).2.2
      rw [cntA_congr ht2] at h6
      have ext := ht2.ex
      rw [exB_append, ht.ex] at ext
      have c1 : cntA n Q (Z1 ++ z :: Z2) = Z1.length + cntA n Q Z2 := by
        unfold cntA
        rw [List.countP_append, List.countP_cons, decide_eq_false h3]
        have : Z1.countP (fun z => decide (LeB n Q z)) = Z1.length := by
          rw [List.countP_eq_length]
          exact fun z hz => decide_eq_true (h1 z hz)
        rw [this]
        simp
      rw [c1, List.length_append, List.length_cons]
      have hs : t.length + (exB G - exB A).toNat ≤ m := by omega
      have hmul := Nat.mul_le_mul_right (g + 1) hs
      rw [Nat.add_mul, Nat.mul_succ t.length g] at hmul
      have ht1 : 1 ≤ t.length := by omega
      omega
/-- A path of at most r positive letters. -/
theorem few_low2 (hn : n ≤ 1000) (h2 : 2 ≤ n) (hD : IsUp n D (hf n)) (hA : LtW n A) (hA0 : LeB n A []) {f g m : Nat} (hf : Span n r D f) (hg : SpanNot n r D g) (hm : - exB A ≤ m) : Few n r D A B (f + m * (g + 1)) := fun Z hZ hd hp => by
  have e0 : exB ([] : List Int) = 0 := rfl
  have h1 := few_chain2 hn h2 hD hA hg m [] Z (fun x hx => by simp at hx) hA0 (by omega) (fun z hz => ⟨(hZ z hz).1, (hZ z hz).2.1.1, by simpa using (hZ z hz).2.2⟩) hd hp
  have h3 : cntA n [] Z ≤ f := by
    classical
    have hsub : List.Sublist (Z.filter fun z => decide (LeB n [] z)) Z := List.filter_sublist
    have := hf [] (fun x hx => by simp at hx) (Z.filter fun z => decide (LeB n [] z)) (fun z hz => by
      have h4 := (List.mem_filter.1 hz).2
      rw [decide_eq_true_eq] at h4
      exact ⟨(hZ z (hsub.subset hz)).1, h4, by simpa using (hZ z (hsub.subset hz)).2.2⟩) (hd.sublist hsub)
    rw [← List.countP_eq_length_filter] at this
    unfold cntA
    refine Nat.le_trans (Nat.le_of_eq ?_) this
    refine List.countP_congr fun z _ => ?_
    simp only [decide_eq_true_eq]
  omega
end
end Go.Proofs.Ytnmklkjlcpgjmaa

